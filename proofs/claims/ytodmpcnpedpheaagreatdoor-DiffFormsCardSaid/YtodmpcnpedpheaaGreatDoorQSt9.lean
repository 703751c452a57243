/- The walk of Power. -/
import Derived.Test.YtodmpcnpedpheaaGreatDoorQSt5
import Derived.Test.YtodmpcnpedpheaaGreatDoorQWt4
import Derived.Test.YtodmpcnpedpheaaGreatDoorQErr
import Derived.Test.YtodmpcnpedpheaaGreatDoorQBase
import Derived.Test.YtodmpcnpedpheaaGreatDoorQSpl1
import Derived.BigQuiet
import Derived.Deep.QuietTactic
set_option linter.unusedSimpArgs false
set_option linter.unusedVariables false
namespace Go.Proofs.YtodmpcnpedpheaaGreatDoor
open Go.RowKit

set_option maxRecDepth 100000 in
set_option maxHeartbeats 1000000 in
theorem st_Power_some {w : World} {p mb : Nat} {most : Int} {sv : Value} {L : List Ent} (hS : St w p mb most sv L) (hO : SOk L) (l : Int) (k : Nat) (hl : isKnown L l) (l0 : l ≠ 0) (hk : 2 ≤ k)
    (hlen : (entAt L l).wt.len * k ≤ 1152921504606846976) (j : Nat) (hj : ruleIdx ⟨3, 0, l, 0, k⟩ L = some j) :
    Calls Tryz.prog 28 #[.pointer (some ⟨p, 0, none⟩), .int .i64 l, .int .i64 k] w fun e w' => e = .returned (.tuple #[.int .i64 ((j : Int) + 1), .nilIface]) ∧ Fr0 w w' := by
  have CF := Lib.hid (fun w' (hf : Fr0 w w') => st_find_some (hS.kept0 hf) ⟨3, 0, l, 0, k⟩ j hj)
  have K1 := Lib.hid (fun w' (hf : Fr0 w w') => st_known_yes (hS.kept0 hf) l hl)
  have a1 := fun w' (hf : Fr0 w w') => st_at (hS.kept0 hf) l hl
  have q1 := (hO.at l hl).1.len1
  have q2 := ((hO.at l hl).2.2.2 l0).1
  generalize entAt L l = x at *
  have CM := Lib.hid (fun w' => len_Mul_ok x.wt.len k w' q2 (by omega) hlen q1)
  have A1 := Lib.hid a1
  have hl0 : (l == 0) = false := by simpa using l0
  have hk0 : ((k : Int) == 0) = false := by simp; omega
  have hk1 : ((k : Int) == 1) = false := by simp; omega
  have hk2 : (0 : Int) ≤ (k : Int) := by omega
  clear hS hj a1 hO l0 hl hlen
  go_enter Tryz.func28, Tryz.ntmps28
  go_wp2_with fail
  refine (K1.out _ (Fr0.refl w)).mono ?_
  rintro e w' ⟨rfl, rfl⟩
  go_wp2_with fail
  refine (A1.out _ (Fr0.refl w)).mono ?_
  rintro e w1 ⟨rfl, hf1⟩
  go_wp2_with fail
  refine (CM.out _).mono ?_
  rintro e w' ⟨rfl, rfl⟩
  go_wp2_with fail
  refine (CF.out _ ((hf1.alloc _).alloc _)).mono ?_
  rintro e w4 ⟨rfl, hf4⟩
  have hj1 : ((j : Int) + 1 != 0) = true := by simp; omega
  go_wp2_with fail
  go_ret2
  exact ⟨rfl, ((hf1.alloc _).alloc _).trans hf4⟩

set_option maxRecDepth 100000 in
set_option maxHeartbeats 2000000 in
theorem st_Power_none {w : World} {p mb : Nat} {most : Int} {sv : Value} {L : List Ent} (hS : St w p mb most sv L) (hO : SOk L) (l : Int) (k : Nat) (hl : isKnown L l) (l0 : l ≠ 0) (hk : 2 ≤ k)
    (hlen : (entAt L l).wt.len * k ≤ 1152921504606846976) (hj : ruleIdx (powEnt L l k).rule L = none) (hm : (L.length : Int) < most) (hL : L.length < 1048576) :
    Calls Tryz.prog 28 #[.pointer (some ⟨p, 0, none⟩), .int .i64 l, .int .i64 k] w fun e w' => e = .returned (.tuple #[.int .i64 ((L.length : Int) + 1), .nilIface]) ∧ Stepped w w' p mb most sv (L ++ [powEnt L l k]) := by
  have CF := Lib.hid (fun w' (hf : Fr0 w w') => st_find_none (hS.kept0 hf) ⟨3, 0, l, 0, k⟩ hj hm)
  have K1 := Lib.hid (fun w' (hf : Fr0 w w') => st_known_yes (hS.kept0 hf) l hl)
  have a1 := fun w' (hf : Fr0 w w') => st_at (hS.kept0 hf) l hl
  obtain ⟨v1, v2, v3, v4⟩ := hO.at l hl
  have q1 := v1.len1
  have q2 := (v4 l0).1
  have cj : ∀ w', Calls Tryz.prog 49 #[.agg #[.int .i64 (entAt L l).wt.len, .int .i64 (entAt L l).wt.lines, .int .i64 (entAt L l).wt.head, .int .i64 (entAt L l).wt.tail, .int .u64 (entAt L l).wt.val, .int .u64 (entAt L l).wt.scale], .int .i64 k] w'
      fun e w'' => e = .returned (.tuple #[.agg #[.int .i64 ((entAt L l).wt.rep k).len, .int .i64 ((entAt L l).wt.rep k).lines, .int .i64 ((entAt L l).wt.rep k).head, .int .i64 ((entAt L l).wt.rep k).tail, .int .u64 ((entAt L l).wt.rep k).val, .int .u64 ((entAt L l).wt.rep k).scale], .nilIface]) ∧ Fr0 w' w'' :=
    fun w' => wt_Repeat _ k w' v1 (by omega) q2 hlen
  have ca := fun (t : Wt) (d : Int) w' (hf : Fr0 w w') => st_add' (hS.kept0 hf) ⟨⟨3, 0, l, 0, k⟩, t, d, false⟩ hj hL
  have hx : powEnt L l k = ⟨⟨3, 0, l, 0, k⟩, (entAt L l).wt.rep k, 1 + (entAt L l).depth, false⟩ := rfl
  rw [hx]
  generalize (entAt L l).wt.rep k = t at *
  generalize entAt L l = x at *
  have CM := Lib.hid (fun w' => len_Mul_ok x.wt.len k w' q2 (by omega) hlen q1)
  have A1 := Lib.hid a1
  have CJ := Lib.hid cj
  have CA := Lib.hid ca
  have hl0 : (l == 0) = false := by simpa using l0
  have hk0 : ((k : Int) == 0) = false := by simp; omega
  have hk1 : ((k : Int) == 1) = false := by simp; omega
  have hk2 : (0 : Int) ≤ (k : Int) := by omega
  clear hS hj a1 hO l0 hl hlen cj ca hx v1 v4
  go_enter Tryz.func28, Tryz.ntmps28
  go_wp2_with fail
  refine (K1.out _ (Fr0.refl w)).mono ?_
  rintro e w' ⟨rfl, rfl⟩
  go_wp2_with fail
  refine (A1.out _ (Fr0.refl w)).mono ?_
  rintro e w1 ⟨rfl, hf1⟩
  go_wp2_with fail
  refine (CM.out _).mono ?_
  rintro e w' ⟨rfl, rfl⟩
  go_wp2_with fail
  refine (CF.out _ ((hf1.alloc _).alloc _)).mono ?_
  rintro e w4 ⟨rfl, hf4⟩
  have hx4 := hf4.kept (alloc2_0 _ _ _)
  have hr4 := hf4.kept (alloc2_1 _ _ _)
  have hW4 := ((hf1.alloc _).alloc _).trans hf4
  clear hf4 hf1 CF K1 A1 CM
  generalize w1.heap.size = N at *
  clear w1
  obtain ⟨x5, x6, x7, x8, x9, x10, x11, x12, lx⟩ := cells13 hx4
  obtain ⟨r1, r2, r3, r4, r5, lr⟩ := cells5 hr4
  go_wp2_with fail
  refine (CJ.out _).mono ?_
  rintro e w5 ⟨rfl, hf5⟩
  have hx5 := hf5.kept hx4
  have hr5 := hf5.kept hr4
  have hW5 := hW4.trans hf5
  clear hf5 hW4 x5 x6 x7 x8 x9 x10 x11 x12 lx r1 r2 r3 r4 r5 lr hx4 hr4 CJ
  clear w4
  obtain ⟨x5, x6, x7, x8, x9, x10, x11, x12, lx⟩ := cells13 hx5
  obtain ⟨r1, r2, r3, r4, r5, lr⟩ := cells5 hr5
  clear x5 x6 x7 x8 x9 x10 hx5 hr5
  have n1 : ¬ w5.heap.size = N := by omega
  have n2 : ¬ w5.heap.size = N + 1 := by omega
  go_wp2_with fail
  refine (CA.out _ _ _ (hW5.alloc _)).mono ?_
  rintro e w6 ⟨rfl, hst⟩
  go_wp2_with fail
  go_ret2
  exact ⟨rfl, hst.before (hW5.alloc _)⟩

theorem st_Power {w : World} {p mb : Nat} {most : Int} {sv : Value} {L : List Ent} (hS : St w p mb most sv L) (hO : SOk L) (l : Int) (k : Nat) (hl : isKnown L l) (l0 : l ≠ 0) (hk : 2 ≤ k)
    (hlen : (entAt L l).wt.len * k ≤ 1152921504606846976) (hm : (L.length : Int) < most) (hL : L.length < 1048576) :
    Calls Tryz.prog 28 #[.pointer (some ⟨p, 0, none⟩), .int .i64 l, .int .i64 k] w fun e w' => e = .returned (.tuple #[.int .i64 (addI L (powEnt L l k)), .nilIface]) ∧ Stepped w w' p mb most sv (addL L (powEnt L l k)) := by
  cases hj : ruleIdx (powEnt L l k).rule L with
  | some j =>
    rw [addI_some hj, addL_some hj]
    exact (st_Power_some hS hO l k hl l0 hk hlen j hj).mono fun e w' ⟨h1, h2⟩ => ⟨h1, Stepped.same hS h2⟩
  | none =>
    rw [addI_none hj, addL_none hj]
    exact st_Power_none hS hO l k hl l0 hk hlen hj hm hL

end Go.Proofs.YtodmpcnpedpheaaGreatDoor

/- The store's Letter, Pair and Power in all cases of a Make. -/
set_option linter.unusedSimpArgs false
set_option linter.unusedVariables false
namespace Go.Proofs.YtodmpcnpedpheaaGreatDoor
open Go.RowKit

set_option maxRecDepth 100000 in
set_option maxHeartbeats 1000000 in
theorem st_Pair_l0 {w : World} {p mb : Nat} {most : Int} {sv : Value} {L : List Ent} (hS : St w p mb most sv L) (l r : Int) (hl : isKnown L l) (hr : isKnown L r) (l0 : l = 0) :
    Calls Tryz.prog 29 #[.pointer (some ⟨p, 0, none⟩), .int .i64 l, .int .i64 r] w fun e w' => e = .returned (.tuple #[.int .i64 r, .nilIface]) ∧ Fr0 w w' := by
  have K1 := Lib.hid (fun w' (hf : Fr0 w w') => st_known_yes (hS.kept0 hf) l hl)
  have K2 := Lib.hid (fun w' (hf : Fr0 w w') => st_known_yes (hS.kept0 hf) r hr)
  have hl0 : (l == 0) = true := beq_iff_eq.2 l0
  clear hS hl hr l0
  go_enter Tryz.func29, Tryz.ntmps29
  go_wp2_with fail
  refine (K1.out _ (Fr0.refl w)).mono ?_
  rintro e w' ⟨rfl, rfl⟩
  go_wp2_with fail
  refine (K2.out _ (Fr0.refl w)).mono ?_
  rintro e w' ⟨rfl, rfl⟩
  go_wp2_with fail
  go_ret2
  exact ⟨rfl, Fr0.refl w⟩

set_option maxRecDepth 100000 in
set_option maxHeartbeats 1000000 in
theorem st_Pair_r0 {w : World} {p mb : Nat} {most : Int} {sv : Value} {L : List Ent} (hS : St w p mb most sv L) (l r : Int) (hl : isKnown L l) (hr : isKnown L r) (l0 : l ≠ 0) (r0 : r = 0) :
    Calls Tryz.prog 29 #[.pointer (some ⟨p, 0, none⟩), .int .i64 l, .int .i64 r] w fun e w' => e = .returned (.tuple #[.int .i64 l, .nilIface]) ∧ Fr0 w w' := by
  have K1 := Lib.hid (fun w' (hf : Fr0 w w') => st_known_yes (hS.kept0 hf) l hl)
  have K2 := Lib.hid (fun w' (hf : Fr0 w w') => st_known_yes (hS.kept0 hf) r hr)
  have hl0 : (l == 0) = false := beq_eq_false_iff_ne.2 l0
  have hr0 : (r == 0) = true := beq_iff_eq.2 r0
  clear hS hl hr l0 r0
  go_enter Tryz.func29, Tryz.ntmps29
  go_wp2_with fail
  refine (K1.out _ (Fr0.refl w)).mono ?_
  rintro e w' ⟨rfl, rfl⟩
  go_wp2_with fail
  refine (K2.out _ (Fr0.refl w)).mono ?_
  rintro e w' ⟨rfl, rfl⟩
  go_wp2_with fail
  go_ret2
  exact ⟨rfl, Fr0.refl w⟩

set_option maxRecDepth 100000 in
set_option maxHeartbeats 1000000 in
theorem st_Pair_long {w : World} {p mb : Nat} {most : Int} {sv : Value} {L : List Ent} (hS : St w p mb most sv L) (hO : SOk L) (l r : Int) (hl : isKnown L l) (hr : isKnown L r) (l0 : l ≠ 0) (r0 : r ≠ 0) (hlen : 1152921504606846976 < (entAt L l).wt.len + (entAt L r).wt.len) :
    Calls Tryz.prog 29 #[.pointer (some ⟨p, 0, none⟩), .int .i64 l, .int .i64 r] w fun e w' => e = .returned (.tuple #[.int .i64 0, .iface 43 (.int .i64 2)]) ∧ Fr0 w w' := by
  have K1 := Lib.hid (fun w' (hf : Fr0 w w') => st_known_yes (hS.kept0 hf) l hl)
  have K2 := Lib.hid (fun w' (hf : Fr0 w w') => st_known_yes (hS.kept0 hf) r hr)
  have a1 := fun w' (hf : Fr0 w w') => st_at (hS.kept0 hf) l hl
  have a2 := fun w' (hf : Fr0 w w') => st_at (hS.kept0 hf) r hr
  have q1 := (hO.at l hl).1
  have q2 := (hO.at r hr).1
  generalize entAt L l = x at *
  generalize entAt L r = y at *
  have CA := Lib.hid (fun w' => len_Add_long x.wt.len y.wt.len w' q1.len0 q1.len1 q2.len0 q2.len1 hlen)
  have A1 := Lib.hid a1
  have A2 := Lib.hid a2
  have hl0 : (l == 0) = false := by simpa using l0
  have hr0 : (r == 0) = false := by simpa using r0
  clear hS a1 a2 hO l0 r0 hl hr q1 q2 hlen
  go_enter Tryz.func29, Tryz.ntmps29
  go_wp2_with fail
  refine (K1.out _ (Fr0.refl w)).mono ?_
  rintro e w' ⟨rfl, rfl⟩
  go_wp2_with fail
  refine (K2.out _ (Fr0.refl w)).mono ?_
  rintro e w' ⟨rfl, rfl⟩
  go_wp2_with fail
  refine (A1.out _ (Fr0.refl w)).mono ?_
  rintro e w1 ⟨rfl, hf1⟩
  go_wp2_with fail
  refine (A2.out _ hf1).mono ?_
  rintro e w2 ⟨rfl, hf2⟩
  have hW2 := hf1.trans hf2
  clear hf1 hf2
  go_wp2_with fail
  refine (CA.out _).mono ?_
  rintro e w' ⟨rfl, rfl⟩
  go_wp2_with fail
  go_ret2
  exact ⟨rfl, (hW2.alloc _).alloc _⟩

set_option maxRecDepth 100000 in
set_option maxHeartbeats 1000000 in
theorem st_Power_zero {w : World} {p mb : Nat} {most : Int} {sv : Value} {L : List Ent} (hS : St w p mb most sv L) (l k : Int) (hl : isKnown L l) (hk : 0 ≤ k) (h0 : k = 0 ∨ l = 0) :
    Calls Tryz.prog 28 #[.pointer (some ⟨p, 0, none⟩), .int .i64 l, .int .i64 k] w fun e w' => e = .returned (.tuple #[.int .i64 0, .nilIface]) ∧ Fr0 w w' := by
  have K1 := Lib.hid (fun w' (hf : Fr0 w w') => st_known_yes (hS.kept0 hf) l hl)
  have hq : (k == 0) = true ∨ ((k == 0) = false ∧ (l == 0) = true) := by
    by_cases h : k = 0
    · exact .inl (beq_iff_eq.2 h)
    · exact .inr ⟨beq_eq_false_iff_ne.2 h, beq_iff_eq.2 (h0.resolve_left h)⟩
  clear hS hl h0
  rcases hq with q1 | ⟨q1, q2⟩
  · go_enter Tryz.func28, Tryz.ntmps28
    go_wp2_with fail
    refine (K1.out _ (Fr0.refl w)).mono ?_
    rintro e w' ⟨rfl, rfl⟩
    go_wp2_with fail
    go_ret2
    exact ⟨rfl, Fr0.refl w⟩
  · go_enter Tryz.func28, Tryz.ntmps28
    go_wp2_with fail
    refine (K1.out _ (Fr0.refl w)).mono ?_
    rintro e w' ⟨rfl, rfl⟩
    go_wp2_with fail
    go_ret2
    exact ⟨rfl, Fr0.refl w⟩

set_option maxRecDepth 100000 in
set_option maxHeartbeats 1000000 in
theorem st_Power_one {w : World} {p mb : Nat} {most : Int} {sv : Value} {L : List Ent} (hS : St w p mb most sv L) (l k : Int) (hl : isKnown L l) (l0 : l ≠ 0) (hk : k = 1) :
    Calls Tryz.prog 28 #[.pointer (some ⟨p, 0, none⟩), .int .i64 l, .int .i64 k] w fun e w' => e = .returned (.tuple #[.int .i64 l, .nilIface]) ∧ Fr0 w w' := by
  have K1 := Lib.hid (fun w' (hf : Fr0 w w') => st_known_yes (hS.kept0 hf) l hl)
  have hl0 : (l == 0) = false := beq_eq_false_iff_ne.2 l0
  have hk0 : (k == 0) = false := beq_eq_false_iff_ne.2 (by omega)
  have hk1 : (k == 1) = true := beq_iff_eq.2 hk
  have hk2 : (0 : Int) ≤ k := by omega
  clear hS hl l0 hk
  go_enter Tryz.func28, Tryz.ntmps28
  go_wp2_with fail
  refine (K1.out _ (Fr0.refl w)).mono ?_
  rintro e w' ⟨rfl, rfl⟩
  go_wp2_with fail
  go_ret2
  exact ⟨rfl, Fr0.refl w⟩

set_option maxRecDepth 100000 in
set_option maxHeartbeats 1000000 in
theorem st_Power_long {w : World} {p mb : Nat} {most : Int} {sv : Value} {L : List Ent} (hS : St w p mb most sv L) (hO : SOk L) (l k : Int) (hl : isKnown L l) (l0 : l ≠ 0) (hk : 2 ≤ k) (hlen : 1152921504606846976 < (entAt L l).wt.len * k) :
    Calls Tryz.prog 28 #[.pointer (some ⟨p, 0, none⟩), .int .i64 l, .int .i64 k] w fun e w' => e = .returned (.tuple #[.int .i64 0, .iface 43 (.int .i64 2)]) ∧ Fr0 w w' := by
  have K1 := Lib.hid (fun w' (hf : Fr0 w w') => st_known_yes (hS.kept0 hf) l hl)
  have a1 := fun w' (hf : Fr0 w w') => st_at (hS.kept0 hf) l hl
  have q1 := (hO.at l hl).1.len1
  have q2 := ((hO.at l hl).2.2.2 l0).1
  generalize entAt L l = x at *
  have CM := Lib.hid (fun w' => len_Mul_long x.wt.len k w' q2 (by omega) hlen q1)
  have A1 := Lib.hid a1
  have hl0 : (l == 0) = false := by simpa using l0
  have hk0 : (k == 0) = false := beq_eq_false_iff_ne.2 (by omega)
  have hk1 : (k == 1) = false := beq_eq_false_iff_ne.2 (by omega)
  have hk2 : (0 : Int) ≤ k := by omega
  clear hS a1 hO l0 hl hlen
  go_enter Tryz.func28, Tryz.ntmps28
  go_wp2_with fail
  refine (K1.out _ (Fr0.refl w)).mono ?_
  rintro e w' ⟨rfl, rfl⟩
  go_wp2_with fail
  refine (A1.out _ (Fr0.refl w)).mono ?_
  rintro e w1 ⟨rfl, hf1⟩
  go_wp2_with fail
  refine (CM.out _).mono ?_
  rintro e w' ⟨rfl, rfl⟩
  go_wp2_with fail
  go_ret2
  exact ⟨rfl, hf1.alloc _⟩

/-- What a store's operation leaves: the ID (the error is free). -/
def MkPost (B : Nat) (w : World) (p mb : Nat) (most : Int) (L' : List Ent) (id : Int) (e : Ending) (w' : World) : Prop :=
  ∃ ev, e = .returned (.tuple #[.int .i64 id, ev]) ∧ Sto B w' p mb most L' ∧ Kp B mb w w'

theorem MkPost.same {B : Nat} {w w' : World} {p mb : Nat} {most : Int} {L : List Ent} (hS : Sto B w p mb most L) {id : Int} {ev : Value} (hf : Fr0 w w') : MkPost B w p mb most L id (.returned (.tuple #[.int .i64 id, ev])) w' := ⟨ev, rfl, hS.kept0 hf, Kp.of0 hf⟩

theorem sto_Letter' {B : Nat} {w : World} {p mb : Nat} {most : Int} {L : List Ent} (hS : Sto B w p mb most L) (hB : B ≤ w.heap.size) (b : Int) (h0 : 0 ≤ b) (h1 : b < 256) (hm : (L.length : Int) < most) (hL : L.length < 1048576) :
    Calls Tryz.prog 27 #[.pointer (some ⟨p, 0, none⟩), .int .u8 b] w (MkPost B w p mb most (addL L (letterEnt b)) (addI L (letterEnt b))) := by
  obtain ⟨sv, hS', s1, s2, s3⟩ := hS
  refine (st_Letter hS' b h0 h1 hm hL).mono ?_
  rintro e w' ⟨rfl, hst⟩
  obtain ⟨q1, q2⟩ := Sto.step hS' s1 s2 s3 hB hst
  exact ⟨_, rfl, q1, q2⟩

theorem sto_PairM {B : Nat} {w : World} {p mb : Nat} {most : Int} {L : List Ent} (hS : Sto B w p mb most L) (hB : B ≤ w.heap.size) (hO : SOk L) (l r : Int) (hl : isKnown L l) (hr : isKnown L r) (hm : (L.length : Int) < most) (hL : L.length < 1048576) :
    Calls Tryz.prog 29 #[.pointer (some ⟨p, 0, none⟩), .int .i64 l, .int .i64 r] w (MkPost B w p mb most (if l = 0 then L else if r = 0 then L else if MaxL - (entAt L r).wt.len < (entAt L l).wt.len then L else addL L (pairEnt L l r)) (if l = 0 then r else if r = 0 then l else if MaxL - (entAt L r).wt.len < (entAt L l).wt.len then 0 else addI L (pairEnt L l r))) := by
  obtain ⟨sv, hS', s1, s2, s3⟩ := id hS
  unfold MaxL
  by_cases l0 : l = 0
  · rw [if_pos l0, if_pos l0]
    refine (st_Pair_l0 hS' l r hl hr l0).mono ?_
    rintro e w' ⟨rfl, hf⟩
    exact MkPost.same hS hf
  · rw [if_neg l0, if_neg l0]
    by_cases r0 : r = 0
    · rw [if_pos r0, if_pos r0]
      refine (st_Pair_r0 hS' l r hl hr l0 r0).mono ?_
      rintro e w' ⟨rfl, hf⟩
      exact MkPost.same hS hf
    · rw [if_neg r0, if_neg r0]
      by_cases hd : 1152921504606846976 - (entAt L r).wt.len < (entAt L l).wt.len
      · rw [if_pos hd, if_pos hd]
        refine (st_Pair_long hS' hO l r hl hr l0 r0 (by omega)).mono ?_
        rintro e w' ⟨rfl, hf⟩
        exact MkPost.same hS hf
      · rw [if_neg hd, if_neg hd]
        refine (st_Pair hS' hO l r hl hr l0 r0 (by omega) hm hL).mono ?_
        rintro e w' ⟨rfl, hst⟩
        obtain ⟨q1, q2⟩ := Sto.step hS' s1 s2 s3 hB hst
        exact ⟨_, rfl, q1, q2⟩

theorem sto_PowerM {B : Nat} {w : World} {p mb : Nat} {most : Int} {L : List Ent} (hS : Sto B w p mb most L) (hB : B ≤ w.heap.size) (hO : SOk L) (l t : Int) (hl : isKnown L l) (hm : (L.length : Int) < most) (hL : L.length < 1048576) :
    Calls Tryz.prog 28 #[.pointer (some ⟨p, 0, none⟩), .int .i64 l, .int .i64 (max t 0)] w (MkPost B w p mb most (if l = 0 ∨ t ≤ 0 ∨ MaxL / (entAt L l).wt.len < t then L else if t = 1 then L else addL L (powEnt L l t)) (if l = 0 ∨ t ≤ 0 ∨ MaxL / (entAt L l).wt.len < t then 0 else if t = 1 then l else addI L (powEnt L l t))) := by
  obtain ⟨sv, hS', s1, s2, s3⟩ := id hS
  unfold MaxL
  by_cases h0 : max t 0 = 0 ∨ l = 0
  · rw [if_pos (by rcases h0 with h | h; exact .inr (.inl (by omega)); exact .inl h), if_pos (by rcases h0 with h | h; exact .inr (.inl (by omega)); exact .inl h)]
    refine (st_Power_zero hS' l (max t 0) hl (by omega) h0).mono ?_
    rintro e w' ⟨rfl, hf⟩
    exact MkPost.same hS hf
  · have l0 : l ≠ 0 := fun h => h0 (.inr h)
    have t0 : 0 < t := by
      rcases Int.lt_or_le 0 t with h | h
      · exact h
      · exact absurd (.inl (by omega)) h0
    have hn := ((hO.at l hl).2.2.2 l0).1
    have hmx : max t 0 = t := by omega
    rw [hmx]
    by_cases hd : 1152921504606846976 / (entAt L l).wt.len < t
    · rw [if_pos (.inr (.inr hd)), if_pos (.inr (.inr hd))]
      have hlong : 1152921504606846976 < (entAt L l).wt.len * t := by
        rcases Int.lt_or_le 1152921504606846976 ((entAt L l).wt.len * t) with h | h
        · exact h
        · have := (Int.le_ediv_iff_mul_le (show 0 < (entAt L l).wt.len by omega)).2 (by rw [Int.mul_comm]; exact h)
          omega
      have ht2 : 2 ≤ t := by
        rcases Int.lt_or_le t 2 with h | h
        · have h1 : t = 1 := by omega
          have := (hO.at l hl).1.len1
          rw [h1, Int.mul_one] at hlong
          omega
        · exact h
      refine (st_Power_long hS' hO l t hl l0 ht2 hlong).mono ?_
      rintro e w' ⟨rfl, hf⟩
      exact MkPost.same hS hf
    · have hno : ¬ (l = 0 ∨ t ≤ 0 ∨ 1152921504606846976 / (entAt L l).wt.len < t) := by
        rintro (h | h | h)
        · exact l0 h
        · omega
        · exact hd h
      rw [if_neg hno, if_neg hno]
      by_cases t1 : t = 1
      · rw [if_pos t1, if_pos t1]
        refine (st_Power_one hS' l t hl l0 t1).mono ?_
        rintro e w' ⟨rfl, hf⟩
        exact MkPost.same hS hf
      · rw [if_neg t1, if_neg t1]
        have hlen : (entAt L l).wt.len * t ≤ 1152921504606846976 := by
          have := (Int.le_ediv_iff_mul_le (show 0 < (entAt L l).wt.len by omega)).1 (show t ≤ 1152921504606846976 / (entAt L l).wt.len by omega)
          rw [Int.mul_comm]; exact this
        obtain ⟨k, rfl⟩ : ∃ k : Nat, t = k := ⟨t.toNat, by omega⟩
        refine (st_Power hS' hO l k hl l0 (by omega) hlen hm hL).mono ?_
        rintro e w' ⟨rfl, hst⟩
        obtain ⟨q1, q2⟩ := Sto.step hS' s1 s2 s3 hB hst
        exact ⟨_, rfl, q1, q2⟩

end Go.Proofs.YtodmpcnpedpheaaGreatDoor

/- The reference's depths over a store's rules. -/
set_option linter.unusedSimpArgs false
set_option linter.unusedVariables false
namespace Go.Proofs.YtodmpcnpedpheaaGreatDoor
open Go.RowKit

theorem oneL_dok {L : List Ent} (hD : DOk L) {m : Mk} {rs : List Int} (hk : ∀ x ∈ rs, isKnown L x) : DOk (oneL L m rs).1 := by
  have kl := pick_known hk m.left
  have kr := pick_known hk m.right
  unfold oneL
  by_cases c0 : m.kind % 4 = 0
  · rw [if_pos c0]; exact hD.letter _
  · rw [if_neg c0]
    by_cases c3 : m.kind % 4 = 3
    · rw [if_pos c3]
      by_cases c : pickR rs m.left = 0 ∨ m.times ≤ 0 ∨ MaxL / (entAt L (pickR rs m.left)).wt.len < m.times
      · rw [if_pos c]; exact hD
      · rw [if_neg c]
        by_cases t2 : m.times = 1
        · rw [if_pos t2]; exact hD
        · rw [if_neg t2]; exact hD.pow _ _ kl (fun h => c (.inl h))
    · rw [if_neg c3]
      by_cases l0 : pickR rs m.left = 0
      · rw [if_pos l0]; exact hD
      · rw [if_neg l0]
        by_cases r0 : pickR rs m.right = 0
        · rw [if_pos r0]; exact hD
        · rw [if_neg r0]
          by_cases hd : MaxL - (entAt L (pickR rs m.right)).wt.len < (entAt L (pickR rs m.left)).wt.len
          · rw [if_pos hd]; exact hD
          · rw [if_neg hd]; exact hD.pair _ _ kl kr l0 r0

theorem allL_dok (ms : List Mk) (hm : ∀ m ∈ ms, m.Ok) : ∀ k, k ≤ ms.length → DOk (allL (ms.take k)).1 := by
  intro k
  induction k with
  | zero => exact fun _ => DOk.nil
  | succ k ih =>
    intro hk
    rw [allL_take ms k (by omega)]
    exact oneL_dok (ih (by omega)) (allL_ok ms hm k (by omega)).2.1

theorem cells5q {w : World} {k : Nat} {u0 u1 u2 u3 u4 : Value} {T : TypeId} {f : Nat × Nat} (h : w.heap[k]? = some (.cells #[u0, u1, u2, u3, u4] T f)) :
    w.cell? ⟨k, 0, none⟩ = some u0 ∧ w.cell? ⟨k, 1, none⟩ = some u1 ∧ w.cell? ⟨k, 2, none⟩ = some u2 ∧ w.cell? ⟨k, 3, none⟩ = some u3 ∧ w.cell? ⟨k, 4, none⟩ = some u4 := by
  simp [World.cell?, h]

theorem idvL_map (xs : List Int) : xs.flatMap idv = xs.map fun x => Value.int .i64 x := by
  induction xs with
  | nil => rfl
  | cons a r ih => rw [List.flatMap_cons, ih]; rfl

end Go.Proofs.YtodmpcnpedpheaaGreatDoor

/- The keys of a store's rules (plain): which rules are signature rules, what a row of the table may hold; letters are unique. -/
set_option linter.unusedSimpArgs false
set_option linter.unusedVariables false
namespace Go.Proofs.YtodmpcnpedpheaaGreatDoor
open Go.RowKit

/-- A row of the table of keys. -/
structure KRow where
  key : Int
  lev : Int
  kn : Bool
deriving DecidableEq, Inhabited

def KRow.vals (r : KRow) : List Value := [.int .u64 r.key, .int .i64 r.lev, .bool r.kn]

/-- The key of a rule, mixed. -/
def mixI (k x y : Int) : Int := ((k + (1234567890123456789 * x % PP + 987654321987654321 * y % PP) % PP) % PP) ^ 17 % PP

theorem mixI_rng (k x y : Int) : 0 ≤ mixI k x y ∧ mixI k x y < 2305843009213693951 := pp_lt _

/-- Do two keys fit a number of a pair level? -/
def fitB (c : Nat) (x y : Int) : Bool := if c = 122 then x == y else (x.toNat.testBit (c / 2) == (c % 2 == 1)) && (y.toNat.testBit (c / 2) == (c % 2 == 0))

/-- The least number, from c on, that two keys fit. -/
def fitN (x y : Int) : Nat → Nat → Option Nat
  | 0, _ => none
  | f + 1, c => if fitB c x y then some c else fitN x y f (c + 1)

/-- The least pair level above low that two keys fit; 0 if there is none. -/
def aftI (low x y : Int) : Int :=
  match fitN x y (123 - (low / 2).toNat % 123) ((low / 2).toNat % 123) with
  | some n => 2 * (low / 2 + 1 + n - ((low / 2).toNat % 123 : Nat))
  | none => match fitN x y 123 0 with
    | some n => 2 * (low / 2 + 1 + n - ((low / 2).toNat % 123 : Nat) + 123)
    | none => 0

/-- The key and the level of a rule. -/
def klF : Nat → List Ent → Int → Int × Int
  | 0, _, _ => (0, -1)
  | k + 1, L, id =>
    if (entAt L id).rule.kind = 1 then (mixI 1 (entAt L id).rule.letter 0, 0)
    else if (entAt L id).rule.kind = 2 then
      (mixI 2 (klF k L (entAt L id).rule.left).1 (klF k L (entAt L id).rule.right).1,
        if (entAt L id).rule.left ≠ (entAt L id).rule.right ∧ 0 ≤ (klF k L (entAt L id).rule.left).2 ∧ 0 ≤ (klF k L (entAt L id).rule.right).2 then
          aftI (max (klF k L (entAt L id).rule.left).2 (klF k L (entAt L id).rule.right).2) (klF k L (entAt L id).rule.left).1 (klF k L (entAt L id).rule.right).1 else -1)
    else (mixI 3 (klF k L (entAt L id).rule.left).1 (entAt L id).rule.times,
      if 0 ≤ (klF k L (entAt L id).rule.left).2 ∧ (klF k L (entAt L id).rule.left).2 % 2 = 0 then (klF k L (entAt L id).rule.left).2 + 1 else -1)

def klev (L : List Ent) (id : Int) : Int := (klF id.toNat L id).2
def kkey (L : List Ent) (id : Int) : Int := (klF id.toNat L id).1

/-- What a row that is known holds. -/
def rowOk (L : List Ent) (id : Int) (r : KRow) : Prop := r.key = kkey L id ∧ r.lev = klev L id

def TabOk (L : List Ent) (T : List KRow) : Prop := ∀ (i : Nat) (h : i < T.length), (T[i].kn = true → 1 ≤ i ∧ i ≤ L.length ∧ rowOk L i T[i]) ∧ (T[i].kn = false → T[i] = ⟨0, 0, false⟩)

/-- With enough fuel it does not matter. -/
theorem klF_fuel {L : List Ent} (hD : DOk L) : ∀ (k : Nat) (id : Int), isKnown L id → id ≠ 0 → id.toNat ≤ k → klF k L id = klF id.toNat L id := by
  intro k
  induction k using Nat.strongRecOn with
  | _ k ih =>
    intro id hk h0 hle
    have h1 := hk.1
    have hpos : 1 ≤ id.toNat := by omega
    obtain ⟨m, hm⟩ : ∃ m, k = m + 1 := ⟨k - 1, by omega⟩
    obtain ⟨n, hn⟩ : ∃ n, id.toNat = n + 1 := ⟨id.toNat - 1, by omega⟩
    subst hm
    rw [hn]
    have ch : ∀ c : Int, 1 ≤ c → c < id → klF m L c = klF n L c := by
      intro c c1 c2
      have hc : isKnown L c := ⟨by omega, by have := hk.2; omega⟩
      rw [ih m (by omega) c hc (by omega) (by omega), ih n (by omega) c hc (by omega) (by omega)]
    unfold klF
    rcases hD.at id hk h0 with ⟨g1, _⟩ | ⟨g1, g2, _⟩ | ⟨g1, g2, _⟩
    · rw [if_pos g1, if_pos g1]
    · rw [ch _ g2.1 g2.2.1, ch _ g2.2.2.1 g2.2.2.2]
    · have n1 : ¬ (entAt L id).rule.kind = 1 := by rw [g1]; decide
      have n2 : ¬ (entAt L id).rule.kind = 2 := by rw [g1]; decide
      rw [if_neg n1, if_neg n2, if_neg n1, if_neg n2, ch _ g2.1 g2.2]

/-- The key and the level of a letter, a pair, a power. -/
theorem kl_letter {L : List Ent} {id : Int} (h0 : 1 ≤ id) (h : (entAt L id).rule.kind = 1) : kkey L id = mixI 1 (entAt L id).rule.letter 0 ∧ klev L id = 0 := by
  unfold kkey klev
  obtain ⟨n, hn⟩ : ∃ n, id.toNat = n + 1 := ⟨id.toNat - 1, by omega⟩
  rw [hn]; unfold klF; rw [if_pos h]; exact ⟨rfl, rfl⟩

theorem kl_pair {L : List Ent} (hD : DOk L) {id : Int} (hk : isKnown L id) (h0 : id ≠ 0) (h : (entAt L id).rule.kind = 2) :
    kkey L id = mixI 2 (kkey L (entAt L id).rule.left) (kkey L (entAt L id).rule.right) ∧
    klev L id = if (entAt L id).rule.left ≠ (entAt L id).rule.right ∧ 0 ≤ klev L (entAt L id).rule.left ∧ 0 ≤ klev L (entAt L id).rule.right then
      aftI (max (klev L (entAt L id).rule.left) (klev L (entAt L id).rule.right)) (kkey L (entAt L id).rule.left) (kkey L (entAt L id).rule.right) else -1 := by
  have h1 := hk.1
  have h2 := hk.2
  rcases hD.at id hk h0 with ⟨g1, _⟩ | ⟨_, g2, _⟩ | ⟨g1, _⟩
  · rw [h] at g1; exact absurd g1 (by decide)
  · obtain ⟨n, hn⟩ : ∃ n, id.toNat = n + 1 := ⟨id.toNat - 1, by omega⟩
    have ea := klF_fuel hD n (entAt L id).rule.left ⟨by omega, by omega⟩ (by omega) (by omega)
    have eb := klF_fuel hD n (entAt L id).rule.right ⟨by omega, by omega⟩ (by omega) (by omega)
    have hw : klF id.toNat L id = (mixI 2 (kkey L (entAt L id).rule.left) (kkey L (entAt L id).rule.right), if (entAt L id).rule.left ≠ (entAt L id).rule.right ∧ 0 ≤ klev L (entAt L id).rule.left ∧ 0 ≤ klev L (entAt L id).rule.right then
        aftI (max (klev L (entAt L id).rule.left) (klev L (entAt L id).rule.right)) (kkey L (entAt L id).rule.left) (kkey L (entAt L id).rule.right) else -1) := by
      rw [hn]
      show klF (n + 1) L id = _
      rw [klF, if_neg (by rw [h]; decide), if_pos h, ea, eb]
      rfl
    unfold kkey klev at *
    rw [hw]
    exact ⟨rfl, rfl⟩
  · rw [h] at g1; exact absurd g1 (by decide)

theorem kl_power {L : List Ent} (hD : DOk L) {id : Int} (hk : isKnown L id) (h0 : id ≠ 0) (h : (entAt L id).rule.kind = 3) :
    kkey L id = mixI 3 (kkey L (entAt L id).rule.left) (entAt L id).rule.times ∧
    klev L id = if 0 ≤ klev L (entAt L id).rule.left ∧ klev L (entAt L id).rule.left % 2 = 0 then klev L (entAt L id).rule.left + 1 else -1 := by
  have h1 := hk.1
  have h2 := hk.2
  rcases hD.at id hk h0 with ⟨g1, _⟩ | ⟨g1, _⟩ | ⟨_, g2, _⟩
  · rw [h] at g1; exact absurd g1 (by decide)
  · rw [h] at g1; exact absurd g1 (by decide)
  · obtain ⟨n, hn⟩ : ∃ n, id.toNat = n + 1 := ⟨id.toNat - 1, by omega⟩
    have ea := klF_fuel hD n (entAt L id).rule.left ⟨by omega, by omega⟩ (by omega) (by omega)
    have hw : klF id.toNat L id = (mixI 3 (kkey L (entAt L id).rule.left) (entAt L id).rule.times, if 0 ≤ klev L (entAt L id).rule.left ∧ klev L (entAt L id).rule.left % 2 = 0 then klev L (entAt L id).rule.left + 1 else -1) := by
      rw [hn]
      show klF (n + 1) L id = _
      rw [klF, if_neg (by rw [h]; decide), if_neg (by rw [h]; decide), ea]
      rfl
    unfold kkey klev at *
    rw [hw]
    exact ⟨rfl, rfl⟩

/-- More rules change nothing. -/
theorem kl_more {L : List Ent} (hD : DOk L) (M : List Ent) (hD' : DOk (L ++ M)) : ∀ (n : Nat) (id : Int), id.toNat ≤ n → isKnown L id → id ≠ 0 → kkey (L ++ M) id = kkey L id ∧ klev (L ++ M) id = klev L id := by
  intro n
  induction n with
  | zero => intro id h hk h0; have := hk.1; omega
  | succ n ih =>
    intro id h hk h0
    have h1 := hk.1
    have h2 := hk.2
    have e := entAt_append L M id hk
    have hk' : isKnown (L ++ M) id := ⟨hk.1, by rw [List.length_append]; omega⟩
    rcases hD.at id hk h0 with ⟨g1, _⟩ | ⟨g1, g2, _⟩ | ⟨g1, g2, _⟩
    · have a := kl_letter (L := L) (by omega) g1
      have b := kl_letter (L := L ++ M) (id := id) (by omega) (by rw [e]; exact g1)
      rw [a.1, a.2, b.1, b.2, e]; exact ⟨rfl, rfl⟩
    · have a := kl_pair hD hk h0 g1
      have b := kl_pair hD' hk' h0 (by rw [e]; exact g1)
      have i1 := ih _ (by omega) (⟨by omega, by omega⟩ : isKnown L (entAt L id).rule.left) (by omega)
      have i2 := ih _ (by omega) (⟨by omega, by omega⟩ : isKnown L (entAt L id).rule.right) (by omega)
      rw [a.1, a.2, b.1, b.2, e, i1.1, i1.2, i2.1, i2.2]; exact ⟨rfl, rfl⟩
    · have a := kl_power hD hk h0 g1
      have b := kl_power hD' hk' h0 (by rw [e]; exact g1)
      have i1 := ih _ (by omega) (⟨by omega, by omega⟩ : isKnown L (entAt L id).rule.left) (by omega)
      rw [a.1, a.2, b.1, b.2, e, i1.1, i1.2]; exact ⟨rfl, rfl⟩

/-- Keys are below the modulus. -/
theorem kkey_rng {L : List Ent} (hD : DOk L) {id : Int} (hk : isKnown L id) (h0 : id ≠ 0) : 0 ≤ kkey L id ∧ kkey L id < 2305843009213693951 := by
  have h1 := hk.1
  rcases hD.at id hk h0 with ⟨g1, _⟩ | ⟨g1, g2, _⟩ | ⟨g1, g2, _⟩
  · rw [(kl_letter (by omega) g1).1]; exact mixI_rng _ _ _
  · rw [(kl_pair hD hk h0 g1).1]; exact mixI_rng _ _ _
  · rw [(kl_power hD hk h0 g1).1]; exact mixI_rng _ _ _

theorem TabOk.more {L : List Ent} (hD : DOk L) {M : List Ent} (hD' : DOk (L ++ M)) {T : List KRow} (h : TabOk L T) : TabOk (L ++ M) T := by
  intro i hi
  refine ⟨fun hk => ?_, (h i hi).2⟩
  obtain ⟨h1, h2, h3, h4⟩ := (h i hi).1 hk
  have e := kl_more hD M hD' _ (i : Int) (Nat.le_refl _) ⟨by omega, by omega⟩ (by omega)
  exact ⟨h1, by rw [List.length_append]; omega, h3.trans e.1.symm, h4.trans e.2.symm⟩

theorem TabOk.nil (L : List Ent) : TabOk L [] := fun i h => by simp at h

/-- No two rules of a store are one; a power has two copies or more. -/
structure Uq (L : List Ent) : Prop where
  one : ∀ a b : Int, isKnown L a → isKnown L b → a ≠ 0 → b ≠ 0 → (entAt L a).rule = (entAt L b).rule → a = b
  pow : ∀ a : Int, isKnown L a → a ≠ 0 → (entAt L a).rule.kind = 3 → 2 ≤ (entAt L a).rule.times
  ltr : ∀ a : Int, isKnown L a → a ≠ 0 → (entAt L a).rule.kind = 1 → 0 ≤ (entAt L a).rule.letter ∧ (entAt L a).rule.letter < 256

theorem Uq.nil : Uq [] := ⟨fun a b h1 _ h2 => by have := h1.1; have := h1.2; simp at this; omega, fun a h1 h2 => by have := h1.1; have := h1.2; simp at this; omega, fun a h1 h2 => by have := h1.1; have := h1.2; simp at this; omega⟩

theorem Uq.add {L : List Ent} (h : Uq L) (e : Ent) (he : e.rule.kind = 3 → 2 ≤ e.rule.times) (he1 : e.rule.kind = 1 → 0 ≤ e.rule.letter ∧ e.rule.letter < 256) : Uq (addL L e) := by
  cases hj : ruleIdx e.rule L with
  | some j => rw [addL_some hj]; exact h
  | none =>
    rw [addL_none hj]
    have hno : ∀ c : Int, isKnown L c → c ≠ 0 → (entAt L c).rule ≠ e.rule := by
      intro c hc c0 hr
      obtain ⟨k, rfl⟩ : ∃ k : Nat, c = (k : Int) + 1 := ⟨(c - 1).toNat, by have := hc.1; omega⟩
      have hlt : k < L.length := by have := hc.2; omega
      rw [entAt_succ L k hlt] at hr
      unfold ruleIdx at hj
      rw [List.findIdx?_eq_none_iff] at hj
      have := hj L[k] (List.getElem_mem hlt)
      simp [hr] at this
    have hlast : entAt (L ++ [e]) ((L.length : Int) + 1) = e := by
      rw [entAt_succ (L ++ [e]) L.length (by simp)]
      simp
    constructor
    · intro a b ha hb a0 b0 hr
      have ha1 := ha.1
      have ha2 := ha.2
      have hb1 := hb.1
      have hb2 := hb.2
      simp only [List.length_append, List.length_cons, List.length_nil] at ha2 hb2
      by_cases ca : a = (L.length : Int) + 1
      · by_cases cb : b = (L.length : Int) + 1
        · omega
        · exfalso
          have kb : isKnown L b := ⟨hb1, by omega⟩
          rw [ca, hlast, entAt_append L [e] b kb] at hr
          exact hno b kb b0 hr.symm
      · have ka : isKnown L a := ⟨ha1, by omega⟩
        by_cases cb : b = (L.length : Int) + 1
        · exfalso
          rw [cb, hlast, entAt_append L [e] a ka] at hr
          exact hno a ka a0 hr
        · have kb : isKnown L b := ⟨hb1, by omega⟩
          rw [entAt_append L [e] a ka, entAt_append L [e] b kb] at hr
          exact h.one a b ka kb a0 b0 hr
    · intro a ha a0 hk
      have ha1 := ha.1
      have ha2 := ha.2
      simp only [List.length_append, List.length_cons, List.length_nil] at ha2
      by_cases ca : a = (L.length : Int) + 1
      · rw [ca, hlast] at hk ⊢; exact he hk
      · have ka : isKnown L a := ⟨ha1, by omega⟩
        rw [entAt_append L [e] a ka] at hk ⊢
        exact h.pow a ka a0 hk
    · intro a ha a0 hk
      have ha1 := ha.1
      have ha2 := ha.2
      simp only [List.length_append, List.length_cons, List.length_nil] at ha2
      by_cases ca : a = (L.length : Int) + 1
      · rw [ca, hlast] at hk ⊢; exact he1 hk
      · have ka : isKnown L a := ⟨ha1, by omega⟩
        rw [entAt_append L [e] a ka] at hk ⊢
        exact h.ltr a ka a0 hk

theorem Uq.letter {L : List Ent} (h : Uq L) (b : Int) (h0 : 0 ≤ b) (h1 : b < 256) : Uq (addL L (letterEnt b)) := h.add _ (fun e => absurd (show (1 : Int) = 3 from e) (by decide)) (fun _ => ⟨h0, h1⟩)
theorem Uq.pair {L : List Ent} (h : Uq L) (x y : Int) : Uq (addL L (pairEnt L x y)) := h.add _ (fun e => absurd (show (2 : Int) = 3 from e) (by decide)) (fun e => absurd (show (2 : Int) = 1 from e) (by decide))
theorem Uq.pw {L : List Ent} (h : Uq L) (x k : Int) (hk : 2 ≤ k) : Uq (addL L (powEnt L x k)) := h.add _ (fun _ => hk) (fun e => absurd (show (3 : Int) = 1 from e) (by decide))

theorem Uq.text : ∀ (f : Nat) (L : List Ent) (bs : List Int), Uq L → (∀ b ∈ bs, 0 ≤ b ∧ b < 256) → Uq (textR f L bs).1
  | 0, L, bs, h, _ => h
  | f + 1, L, bs, h, hb => by
    unfold textR
    split
    · rename_i h1
      have hm : bs.getD 0 0 ∈ bs := by
        cases bs with
        | nil => simp at h1
        | cons b r => simp
      exact h.letter _ (hb _ hm).1 (hb _ hm).2
    · exact (Uq.text f _ _ (Uq.text f _ _ h (fun b hb' => hb b (List.mem_of_mem_take hb'))) (fun b hb' => hb b (List.mem_of_mem_drop hb'))).pair _ _

end Go.Proofs.YtodmpcnpedpheaaGreatDoor

/- Levels (plain): the least pair level above a level that two keys fit; what a pair level and a run level leave. -/
set_option linter.unusedSimpArgs false
set_option linter.unusedVariables false
namespace Go.Proofs.YtodmpcnpedpheaaGreatDoor
open Go.RowKit

theorem fitN_some {x y : Int} : ∀ (f c n : Nat), fitN x y f c = some n → c ≤ n ∧ n < c + f ∧ fitB n x y = true ∧ ∀ k, c ≤ k → k < n → fitB k x y = false
  | 0, c, n => by intro h; simp [fitN] at h
  | f + 1, c, n => by
    intro h
    unfold fitN at h
    cases hc : fitB c x y with
    | true =>
      rw [hc, if_pos rfl] at h
      simp only [Option.some.injEq] at h
      subst h
      exact ⟨Nat.le_refl _, by omega, hc, fun k h1 h2 => by omega⟩
    | false =>
      rw [hc, if_neg (by decide)] at h
      obtain ⟨h1, h2, h3, h4⟩ := fitN_some f (c + 1) n h
      refine ⟨by omega, by omega, h3, fun k k1 k2 => ?_⟩
      by_cases e : k = c
      · rw [e]; exact hc
      · exact h4 k (by omega) k2

theorem fitN_none {x y : Int} : ∀ (f c : Nat), fitN x y f c = none → ∀ k, c ≤ k → k < c + f → fitB k x y = false
  | 0, c => by intro _ k h1 h2; omega
  | f + 1, c => by
    intro h k k1 k2
    unfold fitN at h
    cases hc : fitB c x y with
    | true => rw [hc, if_pos rfl] at h; cases h
    | false =>
      rw [hc, if_neg (by decide)] at h
      by_cases e : k = c
      · rw [e]; exact hc
      · exact fitN_none f (c + 1) h k (by omega) (by omega)

/-- Two numbers below 2^61 that differ, differ in one of 61 bits. -/
theorem bit_differs {x y : Nat} (hx : x < 2305843009213693952) (hy : y < 2305843009213693952) (h : x ≠ y) : ∃ b, b < 61 ∧ x.testBit b ≠ y.testBit b := by
  have : ¬ ∀ b, b < 61 → x.testBit b = y.testBit b := by
    intro hall
    apply h
    apply Nat.eq_of_testBit_eq
    intro i
    by_cases hi : i < 61
    · exact hall i hi
    · have e : (2305843009213693952 : Nat) = 2 ^ 61 := by decide
      have hp : 2 ^ 61 ≤ 2 ^ i := Nat.pow_le_pow_right (by decide) (by omega)
      rw [Nat.testBit_lt_two_pow (by omega : x < 2 ^ i), Nat.testBit_lt_two_pow (by omega : y < 2 ^ i)]
  rw [Classical.not_forall] at this
  obtain ⟨b, hb⟩ := this
  rw [Classical.not_imp] at hb
  exact ⟨b, hb.1, hb.2⟩

/-- Some number fits. -/
theorem fit_ex {x y : Int} (hx : 0 ≤ x) (hx1 : x < 2305843009213693951) (hy : 0 ≤ y) (hy1 : y < 2305843009213693951) : ∃ c, c < 123 ∧ fitB c x y = true := by
  by_cases h : x = y
  · exact ⟨122, by omega, by unfold fitB; rw [if_pos rfl, h]; simp⟩
  · obtain ⟨b, hb, hd⟩ := bit_differs (x := x.toNat) (y := y.toNat) (by omega) (by omega) (by omega)
    cases h1 : x.toNat.testBit b with
    | true =>
      have h2 : y.toNat.testBit b = false := by rw [h1] at hd; cases h3 : y.toNat.testBit b with | true => rw [h3] at hd; exact absurd rfl hd | false => rfl
      refine ⟨2 * b + 1, by omega, ?_⟩
      unfold fitB
      rw [if_neg (by omega), show (2 * b + 1) / 2 = b by omega, show (2 * b + 1) % 2 = 1 by omega, h1, h2]
      rfl
    | false =>
      have h2 : y.toNat.testBit b = true := by rw [h1] at hd; cases h3 : y.toNat.testBit b with | true => rfl | false => rw [h3] at hd; exact absurd rfl hd
      refine ⟨2 * b, by omega, ?_⟩
      unfold fitB
      rw [if_neg (by omega), show (2 * b) / 2 = b by omega, show (2 * b) % 2 = 0 by omega, h1, h2]
      rfl

/-- Do two keys fit a pair level? -/
def fitL (l x y : Int) : Prop := 2 ≤ l ∧ l % 2 = 0 ∧ fitB ((l / 2 - 1).toNat % 123) x y = true

theorem aftI_spec {low x y : Int} (hl : 0 ≤ low) (hx : 0 ≤ x) (hx1 : x < 2305843009213693951) (hy : 0 ≤ y) (hy1 : y < 2305843009213693951) :
    low < aftI low x y ∧ aftI low x y ≤ low + 492 ∧ fitL (aftI low x y) x y ∧ ∀ l, low < l → l < aftI low x y → ¬ fitL l x y := by
  obtain ⟨c0, hc0, hf0⟩ := fit_ex hx hx1 hy hy1
  have hq : ((low / 2).toNat : Int) = low / 2 := by omega
  generalize hqq : (low / 2).toNat = q at *
  have hlq : low / 2 = (q : Int) := hq.symm
  unfold aftI
  rw [hqq, hlq]
  cases h1 : fitN x y (123 - q % 123) (q % 123) with
  | some n =>
    obtain ⟨g1, g2, g3, g4⟩ := fitN_some _ _ _ h1
    dsimp only
    refine ⟨by omega, by omega, ⟨by omega, by omega, ?_⟩, ?_⟩
    · rw [show ((2 * ((q : Int) + 1 + n - (q % 123 : Nat))) / 2 - 1).toNat % 123 = n by omega]
      exact g3
    · rintro l k1 k2 ⟨k3, k4, k5⟩
      have := g4 ((l / 2 - 1).toNat % 123) (by omega) (by omega)
      rw [this] at k5; cases k5
  | none =>
    have g := fitN_none _ _ h1
    dsimp only
    cases h2 : fitN x y 123 0 with
    | none =>
      have := fitN_none _ _ h2 c0 (by omega) (by omega)
      rw [this] at hf0; cases hf0
    | some n =>
      obtain ⟨g1, g2, g3, g4⟩ := fitN_some _ _ _ h2
      have hn : n < q % 123 := by
        rcases Nat.lt_or_ge n (q % 123) with k | k
        · exact k
        · have := g n k (by omega)
          rw [this] at g3; cases g3
      dsimp only
      refine ⟨by omega, by omega, ⟨by omega, by omega, ?_⟩, ?_⟩
      · rw [show ((2 * ((q : Int) + 1 + n - (q % 123 : Nat) + 123)) / 2 - 1).toNat % 123 = n by omega]
        exact g3
      · rintro l k1 k2 ⟨k3, k4, k5⟩
        by_cases k : (l / 2 - 1).toNat - q < 123 - q % 123
        · have := g ((l / 2 - 1).toNat % 123) (by omega) (by omega)
          rw [this] at k5; cases k5
        · have := g4 ((l / 2 - 1).toNat % 123) (by omega) (by omega)
          rw [this] at k5; cases k5

/-- The least: nothing else is it. -/
theorem aftI_eq {low x y l : Int} (hl : 0 ≤ low) (hx : 0 ≤ x) (hx1 : x < 2305843009213693951) (hy : 0 ≤ y) (hy1 : y < 2305843009213693951)
    (h1 : low < l) (h2 : fitL l x y) (h3 : ∀ k, low < k → k < l → ¬ fitL k x y) : aftI low x y = l := by
  obtain ⟨a1, _, a2, a3⟩ := aftI_spec hl hx hx1 hy hy1
  by_cases c : aftI low x y < l
  · exact absurd a2 (h3 _ a1 c)
  · by_cases d : l < aftI low x y
    · exact absurd h2 (a3 _ h1 d)
    · omega

end Go.Proofs.YtodmpcnpedpheaaGreatDoor

/- Plain words: the texts of powers, the lengths of all texts, and how deep a balanced text can be. No program. -/
set_option linter.unusedSimpArgs false
set_option linter.unusedVariables false
namespace Go.Proofs.YtodmpcnpedpheaaGreatDoor
open Go.RowKit

theorem txt_pow {L : List Ent} (h : DOk L) {id : Int} (hk : isKnown L id) (h0 : id ≠ 0) (h3 : (entAt L id).rule.kind = 3) : txt L id = reps (txt L (entAt L id).rule.left) (entAt L id).rule.times.toNat := by
  obtain ⟨g, hg⟩ : ∃ g : Nat, id.toNat = g + 1 := ⟨id.toNat - 1, by have := hk.1; omega⟩
  rcases h.at id hk h0 with ⟨k1, _⟩ | ⟨k1, k2, _⟩ | ⟨k1, k2, _⟩
  · omega
  · omega
  · unfold txt
    rw [hg]
    simp only [txtF]
    rw [if_neg h0, if_neg (by omega), if_neg (by omega)]
    have hb := hk.2
    rw [txtF_eq h g g _ ⟨by omega, by omega⟩ (by omega) (by omega)]

theorem reps_len (t : List Int) (n : Nat) : (reps t n).length = n * t.length := by
  induction n with
  | zero => simp [reps]
  | succ n ih => simp only [reps, List.length_append, ih, Nat.succ_mul]; omega
theorem reps_succ (t : List Int) (n : Nat) : reps t (n + 1) = t ++ reps t n := rfl
/-- The length of the text of any ID. -/
theorem txt_len {L : List Ent} (hd : DOk L) (hs : SOk L) : ∀ (n : Nat) (id : Int), id.toNat ≤ n → isKnown L id → ((txt L id).length : Int) = (entAt L id).wt.len := by
  intro n
  induction n with
  | zero =>
    intro id h hk
    have h0 : id = 0 := by have := hk.1; omega
    subst h0; rfl
  | succ n ih =>
    intro id h hk
    by_cases h0 : id = 0
    · subst h0; rfl
    · have hb := hk.2
      rcases hd.at id hk h0 with ⟨k1, k3⟩ | ⟨k1, k2, k3⟩ | ⟨k1, k2, k3⟩
      · rw [txt_letter hk h0 k1, k3]
        show (1 : Int) = (Wt.letter _).len
        rw [letter_len]
      · have h1 := ih (entAt L id).rule.left (by omega) ⟨by omega, by omega⟩
        have h2 := ih (entAt L id).rule.right (by omega) ⟨by omega, by omega⟩
        rw [txt_pair hd hk h0 k1, List.length_append]
        have e : (entAt L id).wt.len = (entAt L (entAt L id).rule.left).wt.len + (entAt L (entAt L id).rule.right).wt.len := by
          conv => lhs; rw [k3]
          rfl
        omega
      · have h1 := ih (entAt L id).rule.left (by omega) ⟨by omega, by omega⟩
        have e : (entAt L id).wt.len = (entAt L (entAt L id).rule.left).wt.len * (entAt L id).rule.times := by
          conv => lhs; rw [k3]
          rfl
        have p1 := ((hs.at id hk).2.2.2 h0).1
        have p2 := ((hs.at (entAt L id).rule.left ⟨by omega, by omega⟩).2.2.2 (by omega)).1
        have p3 : 0 ≤ (entAt L id).rule.times := by
          refine Classical.byContradiction fun hn => ?_
          have hm := Int.mul_le_mul_of_nonneg_left (show (entAt L id).rule.times ≤ 0 by omega) (show (0 : Int) ≤ (entAt L (entAt L id).rule.left).wt.len by omega)
          rw [← e, Int.mul_zero] at hm
          omega
        rw [txt_pow hd hk h0 k1, reps_len]
        rw [e, ← h1]
        have e2 : (((entAt L id).rule.times.toNat : Nat) : Int) = (entAt L id).rule.times := by omega
        rw [Int.natCast_mul, e2, Int.mul_comm]

end Go.Proofs.YtodmpcnpedpheaaGreatDoor

/- Levels (plain): what a pair level and a run level leave of a sequence. -/
set_option linter.unusedSimpArgs false
set_option linter.unusedVariables false
namespace Go.Proofs.YtodmpcnpedpheaaGreatDoor
open Go.RowKit

theorem known_more {L : List Ent} {id : Int} (h : isKnown L id) (M : List Ent) : isKnown (L ++ M) id := ⟨h.1, by have := h.2; rw [List.length_append]; omega⟩

/-- A relation between neighbours. -/
def Adj (R : Int → Int → Prop) : List Int → Prop
  | [] => True
  | [_] => True
  | x :: y :: t => R x y ∧ Adj R (y :: t)

theorem Adj.tail {R : Int → Int → Prop} {x : Int} : ∀ {l : List Int}, Adj R (x :: l) → Adj R l
  | [], _ => trivial
  | _ :: _, h => h.2

theorem Adj.imp {R S : Int → Int → Prop} : ∀ {l : List Int}, (∀ x ∈ l, ∀ y ∈ l, R x y → S x y) → Adj R l → Adj S l
  | [], _, _ => trivial
  | [_], _, _ => trivial
  | x :: y :: t, hi, h => ⟨hi x (by simp) y (by simp) h.1, Adj.imp (fun a ha b hb => hi a (by simp [List.mem_cons] at ha ⊢; exact .inr ha) b (by simp [List.mem_cons] at hb ⊢; exact .inr hb)) h.2⟩

/-- The text of a sequence. -/
def txts (L : List Ent) (ids : List Int) : List Int := (ids.map (txt L)).flatten

theorem txts_cons (L : List Ent) (x : Int) (l : List Int) : txts L (x :: l) = txt L x ++ txts L l := by simp [txts]

/-- A sequence ahead of a level. -/
structure SeqI (L : List Ent) (l : Int) (ids : List Int) : Prop where
  kn : ∀ u ∈ ids, isKnown L u ∧ u ≠ 0
  lv : ∀ u ∈ ids, 0 ≤ klev L u ∧ klev L u < l
  nf : Adj (fun u v => ∀ k, max (klev L u) (klev L v) < k → k < l → ¬ fitL k (kkey L u) (kkey L v)) ids
  eq : Adj (fun u v => u = v → l % 2 = 1 ∧ klev L u = l - 1) ids

theorem SeqI.tail {L : List Ent} {l x : Int} {ids : List Int} (h : SeqI L l (x :: ids)) : SeqI L l ids :=
  ⟨fun u hu => h.kn u (List.mem_cons_of_mem _ hu), fun u hu => h.lv u (List.mem_cons_of_mem _ hu), h.nf.tail, h.eq.tail⟩

theorem SeqI.more {L : List Ent} {l : Int} {ids : List Int} (h : SeqI L l ids) (hD : DOk L) {M : List Ent} (hD' : DOk (L ++ M)) : SeqI (L ++ M) l ids := by
  have e : ∀ u ∈ ids, kkey (L ++ M) u = kkey L u ∧ klev (L ++ M) u = klev L u := fun u hu => kl_more hD M hD' _ u (Nat.le_refl _) (h.kn u hu).1 (h.kn u hu).2
  refine ⟨fun u hu => ⟨known_more (h.kn u hu).1 M, (h.kn u hu).2⟩, fun u hu => by rw [(e u hu).2]; exact h.lv u hu, ?_, ?_⟩
  · refine h.nf.imp (fun u hu v hv hr k => ?_)
    rw [(e u hu).1, (e u hu).2, (e v hv).1, (e v hv).2]
    exact hr k
  · refine h.eq.imp (fun u hu v hv hr huv => ?_)
    rw [(e u hu).2]
    exact hr huv

theorem txts_more {L : List Ent} (hD : DOk L) (M : List Ent) {ids : List Int} (h : ∀ u ∈ ids, isKnown L u ∧ u ≠ 0) : txts (L ++ M) ids = txts L ids := by
  unfold txts
  congr 1
  exact List.map_congr_left (fun u hu => txt_append hD M (h u hu).1)

/-- Rules are made; letters stay unique. -/
structure Gu (L L' : List Ent) (n : Nat) : Prop where
  gr : Grows L L' n
  uq : Uq L'

theorem Gu.refl {L : List Ent} (h : SOk L) (d : DOk L) (u : Uq L) : Gu L L 0 := ⟨Grows.refl h d, u⟩
theorem Gu.trans {A B C : List Ent} {m n k : Nat} (h : Gu A B m) (g : Gu B C n) (hk : m + n ≤ k) : Gu A C k := ⟨h.gr.trans g.gr hk, g.uq⟩
theorem Gu.le {A B : List Ent} {m n : Nat} (h : Gu A B m) (hk : m ≤ n) : Gu A B n := ⟨h.gr.le hk, h.uq⟩

/-- A new pair. -/
theorem pair_new {L : List Ent} (hS : SOk L) (hD : DOk L) (hU : Uq L) {x y : Int} (hx : isKnown L x) (hy : isKnown L y) (x0 : x ≠ 0) (y0 : y ≠ 0) (hm : (txt L x).length + (txt L y).length ≤ 1152921504606846976) :
    Gu L (addL L (pairEnt L x y)) 1 ∧ isKnown (addL L (pairEnt L x y)) (addI L (pairEnt L x y)) ∧ addI L (pairEnt L x y) ≠ 0 ∧
    txt (addL L (pairEnt L x y)) (addI L (pairEnt L x y)) = txt L x ++ txt L y ∧ entAt (addL L (pairEnt L x y)) (addI L (pairEnt L x y)) = pairEnt L x y ∧
    (x ≠ y → 0 ≤ klev L x → 0 ≤ klev L y → klev (addL L (pairEnt L x y)) (addI L (pairEnt L x y)) = aftI (max (klev L x) (klev L y)) (kkey L x) (kkey L y)) := by
  have l1 := txt_len hD hS _ x (Nat.le_refl _) hx
  have l2 := txt_len hD hS _ y (Nat.le_refl _) hy
  have s1 := hS.pair x y hx hy x0 y0 (by omega)
  have d1 := hD.pair x y hx hy x0 y0
  have k1 := addI_known L (pairEnt L x y)
  have e1 := ent_pair hD x y
  obtain ⟨M, hM⟩ := addL_ext L (pairEnt L x y)
  have hk : (entAt (addL L (pairEnt L x y)) (addI L (pairEnt L x y))).rule.kind = 2 := by rw [e1]; rfl
  have hl : (entAt (addL L (pairEnt L x y)) (addI L (pairEnt L x y))).rule.left = x := by rw [e1]; rfl
  have hr : (entAt (addL L (pairEnt L x y)) (addI L (pairEnt L x y))).rule.right = y := by rw [e1]; rfl
  refine ⟨⟨⟨⟨M, hM⟩, (addL_len _ _).2, s1, d1⟩, hU.pair x y⟩, k1.1, k1.2, ?_, e1, ?_⟩
  · rw [txt_pair d1 k1.1 k1.2 hk, hl, hr, hM, txt_append hD M hx, txt_append hD M hy]
  · intro hxy a b
    have h1 := (kl_pair d1 k1.1 k1.2 hk).2
    rw [hl, hr] at h1
    have ex : kkey (addL L (pairEnt L x y)) x = kkey L x ∧ klev (addL L (pairEnt L x y)) x = klev L x := by rw [hM] at d1 ⊢; exact kl_more hD M d1 _ x (Nat.le_refl _) hx x0
    have ey : kkey (addL L (pairEnt L x y)) y = kkey L y ∧ klev (addL L (pairEnt L x y)) y = klev L y := by rw [hM] at d1 ⊢; exact kl_more hD M d1 _ y (Nat.le_refl _) hy y0
    rw [h1, ex.1, ex.2, ey.1, ey.2, if_pos ⟨hxy, a, b⟩]

/-- A new power. -/
theorem pow_new {L : List Ent} (hS : SOk L) (hD : DOk L) (hU : Uq L) {x : Int} {k : Nat} (hx : isKnown L x) (x0 : x ≠ 0) (hk2 : 2 ≤ k) (hm : (txt L x).length * k ≤ 1152921504606846976) :
    Gu L (addL L (powEnt L x k)) 1 ∧ isKnown (addL L (powEnt L x k)) (addI L (powEnt L x k)) ∧ addI L (powEnt L x k) ≠ 0 ∧
    txt (addL L (powEnt L x k)) (addI L (powEnt L x k)) = reps (txt L x) k ∧ entAt (addL L (powEnt L x k)) (addI L (powEnt L x k)) = powEnt L x k ∧
    (0 ≤ klev L x → klev L x % 2 = 0 → klev (addL L (powEnt L x k)) (addI L (powEnt L x k)) = klev L x + 1) := by
  have l1 := txt_len hD hS _ x (Nat.le_refl _) hx
  have s1 := hS.pow x k hx x0 (by omega) (by rw [← l1, ← Int.natCast_mul]; omega)
  have d1 := hD.pow x k hx x0
  have k1 := addI_known L (powEnt L x k)
  have e1 := ent_pow hD x k
  obtain ⟨M, hM⟩ := addL_ext L (powEnt L x k)
  have hk : (entAt (addL L (powEnt L x k)) (addI L (powEnt L x k))).rule.kind = 3 := by rw [e1]; rfl
  have hl : (entAt (addL L (powEnt L x k)) (addI L (powEnt L x k))).rule.left = x := by rw [e1]; rfl
  have ht : (entAt (addL L (powEnt L x k)) (addI L (powEnt L x k))).rule.times = (k : Int) := by rw [e1]; rfl
  refine ⟨⟨⟨⟨M, hM⟩, (addL_len _ _).2, s1, d1⟩, hU.pw x k (by omega)⟩, k1.1, k1.2, ?_, e1, ?_⟩
  · rw [txt_pow d1 k1.1 k1.2 hk, hl, ht, hM, txt_append hD M hx]; rfl
  · intro a b
    have h1 := (kl_power d1 k1.1 k1.2 hk).2
    rw [hl] at h1
    have ex : kkey (addL L (powEnt L x k)) x = kkey L x ∧ klev (addL L (powEnt L x k)) x = klev L x := by rw [hM] at d1 ⊢; exact kl_more hD M d1 _ x (Nat.le_refl _) hx x0
    rw [h1, ex.2, if_pos ⟨a, b⟩]

/-- A pair level, on a sequence: pairs are made from the left. -/
def prL (c : Nat) : List Ent → List Int → List Ent × List Int
  | L, [] => (L, [])
  | L, [x] => (L, [x])
  | L, x :: y :: t =>
    if fitB c (kkey L x) (kkey L y) = true then ((prL c (addL L (pairEnt L x y)) t).1, addI L (pairEnt L x y) :: (prL c (addL L (pairEnt L x y)) t).2)
    else ((prL c L (y :: t)).1, x :: (prL c L (y :: t)).2)
termination_by _ l => l.length

/-- What a level leaves. -/
structure Left (L : List Ent) (ids : List Int) (l : Int) (L' : List Ent) (out : List Int) : Prop where
  gu : Gu L L' (ids.length - out.length)
  seq : SeqI L' (l + 1) out
  text : txts L' out = txts L ids
  len : out.length ≤ ids.length

theorem prL_ok {c : Nat} {l : Int} (hl : 2 ≤ l) (hl2 : l % 2 = 0) (hc : c = (l / 2 - 1).toNat % 123) : ∀ (n : Nat) (ids : List Int) (L : List Ent), ids.length ≤ n → SOk L → DOk L → Uq L → SeqI L l ids → (txts L ids).length ≤ 1152921504606846976 →
    Left L ids l (prL c L ids).1 (prL c L ids).2 ∧ (∀ x t, ids = x :: t → ∃ h s, (prL c L ids).2 = h :: s ∧ (h = x ∨ klev (prL c L ids).1 h = l)) := by
  intro n
  induction n with
  | zero =>
    intro ids L hn hS hD hU hI ht
    have : ids = [] := List.eq_nil_of_length_eq_zero (by omega)
    subst this
    rw [prL]
    exact ⟨⟨Gu.refl hS hD hU, ⟨fun u hu => by simp at hu, fun u hu => by simp at hu, trivial, trivial⟩, rfl, by simp⟩, fun x t h => by cases h⟩
  | succ n ih =>
    intro ids L hn hS hD hU hI ht
    match ids, hn, hI, ht with
    | [], hn, hI, ht =>
      rw [prL]
      exact ⟨⟨Gu.refl hS hD hU, ⟨fun u hu => by simp at hu, fun u hu => by simp at hu, trivial, trivial⟩, rfl, by simp⟩, fun x t h => by cases h⟩
    | [x], hn, hI, ht =>
      rw [prL]
      exact ⟨⟨Gu.refl hS hD hU, ⟨hI.kn, fun u hu => ⟨(hI.lv u hu).1, by have := (hI.lv u hu).2; show klev L u < l + 1; omega⟩, trivial, trivial⟩, rfl, by simp⟩, fun x' t h => by
        cases h; exact ⟨_, _, rfl, .inl rfl⟩⟩
    | x :: y :: t, hn, hI, ht =>
      have kx := hI.kn x (by simp)
      have ky := hI.kn y (by simp)
      have lx := hI.lv x (by simp)
      have ly := hI.lv y (by simp)
      have rx := kkey_rng hD kx.1 kx.2
      have ry := kkey_rng hD ky.1 ky.2
      have hne : x ≠ y := fun e => by have := (hI.eq.1 e).1; omega
      rw [txts_cons, txts_cons, List.length_append, List.length_append] at ht
      cases hf : fitB c (kkey L x) (kkey L y) with
      | true =>
        obtain ⟨g1, g2, g3, g4, g5, g6⟩ := pair_new hS hD hU kx.1 ky.1 kx.2 ky.2 (by omega)
        have hlev : klev (addL L (pairEnt L x y)) (addI L (pairEnt L x y)) = l := by
          rw [g6 hne lx.1 ly.1]
          exact aftI_eq (by omega) rx.1 rx.2 ry.1 ry.2 (by omega) ⟨hl, hl2, by rw [← hc]; exact hf⟩ (fun k k1 k2 => hI.nf.1 k k1 k2)
        rw [prL, if_pos hf]
        generalize addI L (pairEnt L x y) = i at *
        generalize addL L (pairEnt L x y) = L1 at *
        obtain ⟨M, hM⟩ := g1.gr.ext
        have hI1 : SeqI L1 l t := by
          have := g1.gr.dok
          rw [hM] at this ⊢
          exact hI.tail.tail.more hD this
        have ht1 : txts L1 t = txts L t := by rw [hM]; exact txts_more hD M hI.tail.tail.kn
        obtain ⟨q, qh⟩ := ih t L1 (by simp at hn; omega) g1.gr.sok g1.gr.dok g1.uq hI1 (by rw [ht1]; omega)
        have hq := q.len
        obtain ⟨N, hN⟩ := q.gu.gr.ext
        have hi : kkey (prL c L1 t).1 i = kkey L1 i ∧ klev (prL c L1 t).1 i = klev L1 i := by
          have := q.gu.gr.dok
          rw [hN] at this ⊢
          exact kl_more g1.gr.dok N this _ i (Nat.le_refl _) g2 g3
        have hti : txt (prL c L1 t).1 i = txt L x ++ txt L y := by rw [hN, txt_append g1.gr.dok N g2, g4]
        have hki : isKnown (prL c L1 t).1 i := by rw [hN]; exact known_more g2 N
        refine ⟨⟨g1.trans q.gu (by simp only [List.length_cons]; omega), ⟨?_, ?_, ?_, ?_⟩, ?_, by simp only [List.length_cons]; omega⟩, fun x' t' h => ?_⟩
        · intro u hu
          rcases List.mem_cons.1 hu with e | hu
          · rw [e]; exact ⟨hki, g3⟩
          · exact q.seq.kn u hu
        · intro u hu
          rcases List.mem_cons.1 hu with e | hu
          · rw [e, hi.2, hlev]; omega
          · exact q.seq.lv u hu
        · cases hout : (prL c L1 t).2 with
          | nil => trivial
          | cons h s =>
            refine ⟨fun k k1 k2 => ?_, by have := q.seq.nf; rwa [hout] at this⟩
            rw [hi.2, hlev] at k1
            omega
        · cases hout : (prL c L1 t).2 with
          | nil => trivial
          | cons h s => exact ⟨fun e => ⟨by omega, by rw [hi.2, hlev]; omega⟩, by have := q.seq.eq; rwa [hout] at this⟩
        · rw [txts_cons, hti, q.text, ht1, txts_cons, txts_cons, List.append_assoc]
        · exact ⟨i, _, rfl, .inr (hi.2.trans hlev)⟩
      | false =>
        rw [prL, if_neg (by rw [hf]; decide)]
        obtain ⟨q, qh⟩ := ih (y :: t) L (by simp at hn ⊢; omega) hS hD hU hI.tail (by rw [txts_cons, List.length_append]; omega)
        obtain ⟨h, s, hout, hh⟩ := qh y t rfl
        obtain ⟨N, hN⟩ := q.gu.gr.ext
        have hx' : kkey (prL c L (y :: t)).1 x = kkey L x ∧ klev (prL c L (y :: t)).1 x = klev L x := by
          have := q.gu.gr.dok
          rw [hN] at this ⊢
          exact kl_more hD N this _ x (Nat.le_refl _) kx.1 kx.2
        have hy' : kkey (prL c L (y :: t)).1 y = kkey L y ∧ klev (prL c L (y :: t)).1 y = klev L y := by
          have := q.gu.gr.dok
          rw [hN] at this ⊢
          exact kl_more hD N this _ y (Nat.le_refl _) ky.1 ky.2
        have htx : txt (prL c L (y :: t)).1 x = txt L x := by rw [hN]; exact txt_append hD N kx.1
        have hkx : isKnown (prL c L (y :: t)).1 x := by rw [hN]; exact known_more kx.1 N
        have hql := q.len
        refine ⟨⟨q.gu.le (by simp only [List.length_cons] at hql ⊢; omega), ⟨?_, ?_, ?_, ?_⟩, ?_, by simp only [List.length_cons] at hql ⊢; omega⟩, fun x' t' e => ⟨x, _, rfl, .inl (by cases e; rfl)⟩⟩
        · intro u hu
          rcases List.mem_cons.1 hu with e | hu
          · rw [e]; exact ⟨hkx, kx.2⟩
          · exact q.seq.kn u hu
        · intro u hu
          rcases List.mem_cons.1 hu with e | hu
          · rw [e, hx'.2]; omega
          · exact q.seq.lv u hu
        · have hs := q.seq.nf
          rw [hout] at hs ⊢
          refine ⟨fun k k1 k2 => ?_, hs⟩
          rcases hh with hh | hh
          · rw [hh] at k1 ⊢
            rw [hx'.2, hy'.2] at k1
            rw [hx'.1, hy'.1]
            by_cases e : k = l
            · rintro ⟨_, _, k5⟩
              rw [e, ← hc, hf] at k5
              cases k5
            · exact hI.nf.1 k k1 (by omega)
          · rw [hh] at k1
            omega
        · have hs := q.seq.eq
          rw [hout] at hs ⊢
          refine ⟨fun e => ?_, hs⟩
          exfalso
          rcases hh with hh | hh
          · exact hne (e.trans hh)
          · rw [← e, hx'.2] at hh
            omega
        · rw [txts_cons, htx, q.text, ← txts_cons]

/-- Nothing made: nothing changed, and no neighbours fit. -/
theorem prL_same {c : Nat} : ∀ (n : Nat) (ids : List Int) (L : List Ent), ids.length ≤ n → (prL c L ids).2.length ≤ ids.length ∧
    ((prL c L ids).2.length = ids.length → prL c L ids = (L, ids) ∧ Adj (fun u v => fitB c (kkey L u) (kkey L v) = false) ids) := by
  intro n
  induction n with
  | zero =>
    intro ids L hn
    have : ids = [] := List.eq_nil_of_length_eq_zero (by omega)
    subst this
    rw [prL]
    exact ⟨Nat.le_refl _, fun _ => ⟨rfl, trivial⟩⟩
  | succ n ih =>
    intro ids L hn
    match ids, hn with
    | [], hn => rw [prL]; exact ⟨Nat.le_refl _, fun _ => ⟨rfl, trivial⟩⟩
    | [x], hn => rw [prL]; exact ⟨Nat.le_refl _, fun _ => ⟨rfl, trivial⟩⟩
    | x :: y :: t, hn =>
      cases hf : fitB c (kkey L x) (kkey L y) with
      | true =>
        rw [prL, if_pos hf]
        have := (ih t (addL L (pairEnt L x y)) (by simp at hn; omega)).1
        simp only [List.length_cons]
        exact ⟨by omega, fun h => by omega⟩
      | false =>
        rw [prL, if_neg (by rw [hf]; decide)]
        have := ih (y :: t) L (by simp at hn ⊢; omega)
        simp only [List.length_cons] at this ⊢
        refine ⟨by omega, fun h => ?_⟩
        obtain ⟨k1, k2⟩ := this.2 (by omega)
        rw [k1]
        exact ⟨rfl, hf, k2⟩

/-- The maximal runs. -/
def rle : List Int → List (Int × Nat)
  | [] => []
  | x :: l => match rle l with
    | [] => [(x, 1)]
    | (y, k) :: g => if x = y then (y, k + 1) :: g else (x, 1) :: (y, k) :: g

/-- A run level, on the runs of a sequence. -/
def rnL : List Ent → List (Int × Nat) → List Ent × List Int
  | L, [] => (L, [])
  | L, (x, k) :: g =>
    if 1 < k then ((rnL (addL L (powEnt L x k)) g).1, addI L (powEnt L x k) :: (rnL (addL L (powEnt L x k)) g).2)
    else ((rnL L g).1, x :: (rnL L g).2)

/-- The sequence of runs. -/
def unr (g : List (Int × Nat)) : List Int := (g.map fun p => List.replicate p.2 p.1).flatten

theorem unr_cons (x : Int) (k : Nat) (g : List (Int × Nat)) : unr ((x, k) :: g) = List.replicate k x ++ unr g := by simp [unr]

/-- Runs: none is empty, neighbours differ. -/
def RunsOk : List (Int × Nat) → Prop
  | [] => True
  | [p] => 1 ≤ p.2
  | p :: q :: g => 1 ≤ p.2 ∧ p.1 ≠ q.1 ∧ RunsOk (q :: g)

theorem RunsOk.tail {p : Int × Nat} : ∀ {g : List (Int × Nat)}, RunsOk (p :: g) → RunsOk g
  | [], _ => trivial
  | _ :: _, h => h.2.2
theorem RunsOk.pos {p : Int × Nat} : ∀ {g : List (Int × Nat)}, RunsOk (p :: g) → 1 ≤ p.2
  | [], h => h
  | _ :: _, h => h.1

theorem rle_ok : ∀ l : List Int, RunsOk (rle l) ∧ unr (rle l) = l ∧ (rle l).length ≤ l.length ∧ ((rle l).length = l.length → ∀ p ∈ rle l, p.2 = 1)
  | [] => ⟨trivial, rfl, Nat.le_refl _, fun _ p hp => by simp [rle] at hp⟩
  | x :: l => by
    obtain ⟨h1, h2, h3, h4⟩ := rle_ok l
    unfold rle
    cases hr : rle l with
    | nil =>
      rw [hr] at h2
      have hl : l = [] := by rw [← h2]; rfl
      subst hl
      exact ⟨Nat.le_refl _, rfl, Nat.le_refl _, fun _ p hp => by simp at hp; rw [hp]⟩
    | cons q g =>
      obtain ⟨y, k⟩ := q
      rw [hr] at h1 h2 h3 h4
      dsimp only
      by_cases c : x = y
      · rw [if_pos c]
        refine ⟨?_, ?_, ?_, ?_⟩
        · cases g with
          | nil => show 1 ≤ k + 1; omega
          | cons q' g' => exact ⟨by show 1 ≤ k + 1; omega, h1.2.1, h1.2.2⟩
        · rw [unr_cons, List.replicate_succ, List.cons_append, ← unr_cons, h2, c]
        · simp only [List.length_cons] at h3 ⊢; omega
        · intro h; simp only [List.length_cons] at h3 h; omega
      · rw [if_neg c]
        refine ⟨⟨Nat.le_refl _, c, h1⟩, ?_, ?_, ?_⟩
        · rw [unr_cons, h2]; rfl
        · simp only [List.length_cons] at h3 ⊢; omega
        · intro h p hp
          rcases List.mem_cons.1 hp with e | hp
          · rw [e]
          · exact h4 (by simp only [List.length_cons] at h ⊢; omega) p hp

theorem reps_replicate (a : List Int) : ∀ k : Nat, reps a k = (List.replicate k a).flatten
  | 0 => rfl
  | k + 1 => by rw [List.replicate_succ, List.flatten_cons, ← reps_replicate a k]; rfl

theorem txts_append (L : List Ent) (a b : List Int) : txts L (a ++ b) = txts L a ++ txts L b := by simp [txts]

theorem txts_replicate (L : List Ent) (x : Int) (k : Nat) : txts L (List.replicate k x) = reps (txt L x) k := by
  rw [reps_replicate]; unfold txts; rw [List.map_replicate]

theorem SeqI.drop {L : List Ent} {l x : Int} {ids : List Int} : ∀ {k : Nat}, SeqI L l (List.replicate k x ++ ids) → SeqI L l ids
  | 0, h => h
  | k + 1, h => SeqI.drop (k := k) (by rw [List.replicate_succ, List.cons_append] at h; exact h.tail)

theorem rnL_ok {l : Int} (hl : 1 ≤ l) (hl2 : l % 2 = 1) : ∀ (g : List (Int × Nat)) (L : List Ent), RunsOk g → SOk L → DOk L → Uq L → SeqI L l (unr g) → (txts L (unr g)).length ≤ 1152921504606846976 →
    Left L (unr g) l (rnL L g).1 (rnL L g).2 ∧ (rnL L g).2.length = g.length ∧
    (∀ x k t, g = (x, k) :: t → ∃ h s, (rnL L g).2 = h :: s ∧ ((h = x ∧ k = 1) ∨ (klev (rnL L g).1 h = l ∧ (entAt (rnL L g).1 h).rule.kind = 3 ∧ (entAt (rnL L g).1 h).rule.left = x))) := by
  intro g
  induction g with
  | nil =>
    intro L _ hS hD hU hI ht
    exact ⟨⟨Gu.refl hS hD hU, ⟨fun u hu => by simp [rnL] at hu, fun u hu => by simp [rnL] at hu, trivial, trivial⟩, rfl, by simp [rnL]⟩, rfl, fun x k t h => by cases h⟩
  | cons p g ih =>
    obtain ⟨x, k⟩ := p
    intro L hr hS hD hU hI ht
    have hk1 : 1 ≤ k := hr.pos
    have hmem : x ∈ unr ((x, k) :: g) := by
      rw [unr_cons]; exact List.mem_append_left _ (List.mem_replicate.2 ⟨by omega, rfl⟩)
    have kx := hI.kn x hmem
    have lx := hI.lv x hmem
    have hIg : SeqI L l (unr g) := by rw [unr_cons] at hI; exact hI.drop
    rw [unr_cons, txts_append, txts_replicate, List.length_append, reps_len] at ht
    by_cases c : 1 < k
    · -- a new power
      have hxl : klev L x = l - 1 := by
        obtain ⟨k', rfl⟩ : ∃ k', k = k' + 2 := ⟨k - 2, by omega⟩
        have he := hI.eq
        rw [unr_cons, List.replicate_succ, List.replicate_succ] at he
        exact (he.1 rfl).2
      obtain ⟨g1, g2, g3, g4, g5, g6⟩ := pow_new hS hD hU kx.1 kx.2 (by omega : 2 ≤ k) (by rw [Nat.mul_comm]; exact Nat.le_trans (Nat.le_add_right _ _) ht)
      have hlev : klev (addL L (powEnt L x k)) (addI L (powEnt L x k)) = l := by rw [g6 lx.1 (by omega)]; omega
      have hkind : (entAt (addL L (powEnt L x k)) (addI L (powEnt L x k))).rule.kind = 3 ∧ (entAt (addL L (powEnt L x k)) (addI L (powEnt L x k))).rule.left = x := by rw [g5]; exact ⟨rfl, rfl⟩
      rw [rnL, if_pos c]
      generalize addI L (powEnt L x k) = i at *
      generalize addL L (powEnt L x k) = L1 at *
      obtain ⟨M, hM⟩ := g1.gr.ext
      have hI1 : SeqI L1 l (unr g) := by
        have := g1.gr.dok
        rw [hM] at this ⊢
        exact hIg.more hD this
      have ht1 : txts L1 (unr g) = txts L (unr g) := by rw [hM]; exact txts_more hD M hIg.kn
      obtain ⟨q, ql, qh⟩ := ih L1 hr.tail g1.gr.sok g1.gr.dok g1.uq hI1 (by rw [ht1]; omega)
      have hq := q.len
      obtain ⟨N, hN⟩ := q.gu.gr.ext
      have hi : kkey (rnL L1 g).1 i = kkey L1 i ∧ klev (rnL L1 g).1 i = klev L1 i := by
        have := q.gu.gr.dok
        rw [hN] at this ⊢
        exact kl_more g1.gr.dok N this _ i (Nat.le_refl _) g2 g3
      have hent : entAt (rnL L1 g).1 i = entAt L1 i := by rw [hN]; exact entAt_append L1 N i g2
      have hti : txt (rnL L1 g).1 i = reps (txt L x) k := by rw [hN, txt_append g1.gr.dok N g2, g4]
      have hki : isKnown (rnL L1 g).1 i := by rw [hN]; exact known_more g2 N
      refine ⟨⟨g1.trans q.gu (by rw [unr_cons]; simp only [List.length_append, List.length_replicate, List.length_cons]; omega), ⟨?_, ?_, ?_, ?_⟩, ?_, by rw [unr_cons]; simp only [List.length_append, List.length_replicate, List.length_cons]; omega⟩, by simp only [List.length_cons, ql], fun x' k' t' e => ?_⟩
      · intro u hu
        rcases List.mem_cons.1 hu with e | hu
        · rw [e]; exact ⟨hki, g3⟩
        · exact q.seq.kn u hu
      · intro u hu
        rcases List.mem_cons.1 hu with e | hu
        · rw [e, hi.2, hlev]; omega
        · exact q.seq.lv u hu
      · cases hout : (rnL L1 g).2 with
        | nil => trivial
        | cons h s =>
          refine ⟨fun k k1 k2 => ?_, by have := q.seq.nf; rwa [hout] at this⟩
          rw [hi.2, hlev] at k1
          omega
      · cases hg : g with
        | nil => simp [rnL]; trivial
        | cons p' g' =>
          obtain ⟨x2, k2⟩ := p'
          obtain ⟨h, s, hout, hh⟩ := qh x2 k2 g' hg
          rw [hg] at hout hh hent hi
          rw [hout]
          have hs := q.seq.eq
          rw [hg, hout] at hs
          refine ⟨fun e => ?_, hs⟩
          exfalso
          have hx2 : x ≠ x2 := by rw [hg] at hr; exact hr.2.1
          have hk2 := hIg.lv x2 (by rw [hg, unr_cons]; exact List.mem_append_left _ (List.mem_replicate.2 ⟨by have := hr.tail; rw [hg] at this; have := this.pos; omega, rfl⟩))
          have hk2' := hI1.lv x2 (by rw [hg, unr_cons]; exact List.mem_append_left _ (List.mem_replicate.2 ⟨by have := hr.tail; rw [hg] at this; have := this.pos; omega, rfl⟩))
          rcases hh with ⟨e1, _⟩ | ⟨e1, e2, e3⟩
          · rw [e1] at e
            rw [e] at hlev
            omega
          · rw [← e, hent, hkind.2] at e3
            exact hx2 e3
      · rw [txts_cons, hti, q.text, ht1, unr_cons, txts_append, txts_replicate]
      · cases e
        exact ⟨i, _, rfl, .inr ⟨hi.2.trans hlev, by rw [hent]; exact hkind.1, by rw [hent]; exact hkind.2⟩⟩
    · have hk : k = 1 := by omega
      subst hk
      rw [rnL, if_neg c]
      obtain ⟨q, ql, qh⟩ := ih L hr.tail hS hD hU hIg (by omega)
      obtain ⟨N, hN⟩ := q.gu.gr.ext
      have hx' : kkey (rnL L g).1 x = kkey L x ∧ klev (rnL L g).1 x = klev L x := by
        have := q.gu.gr.dok
        rw [hN] at this ⊢
        exact kl_more hD N this _ x (Nat.le_refl _) kx.1 kx.2
      have htx : txt (rnL L g).1 x = txt L x := by rw [hN]; exact txt_append hD N kx.1
      have hkx : isKnown (rnL L g).1 x := by rw [hN]; exact known_more kx.1 N
      have hql := q.len
      have hone : unr ((x, 1) :: g) = x :: unr g := by rw [unr_cons]; rfl
      refine ⟨⟨q.gu.le (by rw [hone]; simp only [List.length_cons]; omega), ⟨?_, ?_, ?_, ?_⟩, ?_, by rw [hone]; simp only [List.length_cons]; omega⟩, by simp only [List.length_cons, ql], fun x' k' t' e => by cases e; exact ⟨x, _, rfl, .inl ⟨rfl, rfl⟩⟩⟩
      · intro u hu
        rcases List.mem_cons.1 hu with e | hu
        · rw [e]; exact ⟨hkx, kx.2⟩
        · exact q.seq.kn u hu
      · intro u hu
        rcases List.mem_cons.1 hu with e | hu
        · rw [e, hx'.2]; omega
        · exact q.seq.lv u hu
      · cases hg : g with
        | nil => simp [rnL]; trivial
        | cons p' g' =>
          obtain ⟨x2, k2⟩ := p'
          obtain ⟨h, s, hout, hh⟩ := qh x2 k2 g' hg
          have hs := q.seq.nf
          rw [hg] at hout hh hx'
          rw [hg, hout] at hs
          rw [hout]
          refine ⟨fun k k1 k3 => ?_, hs⟩
          rcases hh with ⟨e1, e2⟩ | ⟨e1, _⟩
          · subst e1 e2
            have m2 : h ∈ unr g := by rw [hg, unr_cons]; exact List.mem_append_left _ (List.mem_replicate.2 ⟨by omega, rfl⟩)
            have hh' : kkey (rnL L g).1 h = kkey L h ∧ klev (rnL L g).1 h = klev L h := by
              have := q.gu.gr.dok
              rw [hN] at this ⊢
              exact kl_more hD N this _ h (Nat.le_refl _) (hIg.kn h m2).1 (hIg.kn h m2).2
            rw [hg] at hh'
            rw [hx'.2, hh'.2] at k1
            rw [hx'.1, hh'.1]
            by_cases ek : k = l
            · rintro ⟨_, k5, _⟩
              omega
            · have hn := hI.nf
              rw [hone, hg, unr_cons] at hn
              exact hn.1 k k1 (by omega)
          · rw [e1] at k1
            omega
      · cases hg : g with
        | nil => simp [rnL]; trivial
        | cons p' g' =>
          obtain ⟨x2, k2⟩ := p'
          obtain ⟨h, s, hout, hh⟩ := qh x2 k2 g' hg
          have hs := q.seq.eq
          rw [hg] at hout hh hx'
          rw [hg, hout] at hs
          rw [hout]
          refine ⟨fun e => ?_, hs⟩
          exfalso
          have hx2 : x ≠ x2 := by rw [hg] at hr; exact hr.2.1
          rcases hh with ⟨e1, _⟩ | ⟨e1, _⟩
          · exact hx2 (e.trans e1)
          · rw [← e, hx'.2] at e1
            omega
      · rw [txts_cons, htx, q.text, hone, txts_cons]

/-- Where no run is longer than one, nothing changes. -/
theorem rnL_same : ∀ (g : List (Int × Nat)) (L : List Ent), (∀ p ∈ g, p.2 = 1) → rnL L g = (L, unr g)
  | [], L, _ => rfl
  | (x, k) :: g, L, h => by
    have hk : k = 1 := h (x, k) (by simp)
    subst hk
    rw [rnL, if_neg (by omega), rnL_same g L (fun p hp => h p (List.mem_cons_of_mem _ hp)), unr_cons]
    rfl

end Go.Proofs.YtodmpcnpedpheaaGreatDoor

/- Levels (plain): one level after the other, until one symbol is left. -/
set_option linter.unusedSimpArgs false
set_option linter.unusedVariables false
namespace Go.Proofs.YtodmpcnpedpheaaGreatDoor
open Go.RowKit

/-- One level. -/
def lvL (l : Int) (L : List Ent) (ids : List Int) : List Ent × List Int := if l % 2 = 1 then rnL L (rle ids) else prL ((l / 2 - 1).toNat % 123) L ids

theorem lvL_ok {l : Int} (hl : 1 ≤ l) {L : List Ent} {ids : List Int} (hS : SOk L) (hD : DOk L) (hU : Uq L) (hI : SeqI L l ids) (ht : (txts L ids).length ≤ 1152921504606846976) :
    Left L ids l (lvL l L ids).1 (lvL l L ids).2 ∧ (ids ≠ [] → (lvL l L ids).2 ≠ []) := by
  unfold lvL
  split
  · rename_i h
    obtain ⟨r1, r2, r3, r4⟩ := rle_ok ids
    have q := rnL_ok hl h (rle ids) L r1 hS hD hU (by rw [r2]; exact hI) (by rw [r2]; exact ht)
    rw [r2] at q
    refine ⟨q.1, fun hne => ?_⟩
    cases hr : rle ids with
    | nil => rw [hr] at r2; exact absurd r2.symm hne
    | cons p g =>
      obtain ⟨h', s, e, _⟩ := q.2.2 p.1 p.2 g hr
      rw [hr] at e
      rw [e]; simp
  · rename_i h
    have q := prL_ok (c := (l / 2 - 1).toNat % 123) (l := l) (by omega) (by omega) rfl _ ids L (Nat.le_refl _) hS hD hU hI ht
    refine ⟨q.1, fun hne => ?_⟩
    cases ids with
    | nil => exact absurd rfl hne
    | cons x t =>
      obtain ⟨h', s, e, _⟩ := q.2 x t rfl
      rw [e]; simp

/-- How much there is to do. -/
def meas (l : Int) (L : List Ent) : List Int → Nat
  | x :: y :: t => (t.length + 2) * 1000 + (aftI (l - 1) (kkey L x) (kkey L y) - l).toNat
  | [_] => 1000
  | [] => 0

theorem meas_le {l : Int} (hl : 1 ≤ l) {L : List Ent} (hD : DOk L) : ∀ {ids : List Int}, (∀ u ∈ ids, isKnown L u ∧ u ≠ 0) → ids.length * 1000 ≤ meas l L ids ∧ meas l L ids ≤ ids.length * 1000 + 500
  | [], _ => by simp [meas]
  | [_], _ => by simp [meas]
  | x :: y :: t, h => by
    have kx := h x (by simp)
    have ky := h y (by simp)
    have rx := kkey_rng hD kx.1 kx.2
    have ry := kkey_rng hD ky.1 ky.2
    have a := aftI_spec (low := l - 1) (by omega) rx.1 rx.2 ry.1 ry.2
    have a1 := a.1
    have a2 := a.2.1
    simp only [meas, List.length_cons]
    omega

/-- Every level brings the end nearer. -/
theorem meas_lt {l : Int} (hl : 1 ≤ l) {L : List Ent} {ids : List Int} (hS : SOk L) (hD : DOk L) (hU : Uq L) (hI : SeqI L l ids) (ht : (txts L ids).length ≤ 1152921504606846976) (h2 : 1 < ids.length) :
    meas (l + 1) (lvL l L ids).1 (lvL l L ids).2 < meas l L ids := by
  have q := (lvL_ok hl hS hD hU hI ht).1
  have m1 := meas_le (l := l + 1) (by omega) q.gu.gr.dok q.seq.kn
  have m2 := meas_le hl hD hI.kn
  have hle := q.len
  by_cases c : (lvL l L ids).2.length = ids.length
  · have hsame : lvL l L ids = (L, ids) ∧ ∀ x y t, ids = x :: y :: t → ¬ fitL l (kkey L x) (kkey L y) := by
      unfold lvL at c ⊢
      split at c
      · rename_i ho
        rw [if_pos ho]
        obtain ⟨r1, r2, r3, r4⟩ := rle_ok ids
        have k := rnL_ok hl ho (rle ids) L r1 hS hD hU (by rw [r2]; exact hI) (by rw [r2]; exact ht)
        rw [k.2.1] at c
        refine ⟨by rw [rnL_same _ _ (r4 c), r2], fun x y t _ => ?_⟩
        rintro ⟨_, k2, _⟩
        omega
      · rename_i ho
        rw [if_neg ho]
        obtain ⟨k1, k2⟩ := (prL_same (c := (l / 2 - 1).toNat % 123) _ ids L (Nat.le_refl _)).2 c
        refine ⟨k1, fun x y t e => ?_⟩
        rintro ⟨_, _, k3⟩
        rw [e] at k2
        have := k2.1
        rw [this] at k3
        cases k3
    obtain ⟨e1, e2⟩ := hsame
    rw [e1]
    obtain ⟨x, y, t, rfl⟩ : ∃ x y t, ids = x :: y :: t := by
      cases ids with
      | nil => simp at h2
      | cons x s => cases s with
        | nil => simp at h2
        | cons y t => exact ⟨x, y, t, rfl⟩
    have kx := hI.kn x (by simp)
    have ky := hI.kn y (by simp)
    have rx := kkey_rng hD kx.1 kx.2
    have ry := kkey_rng hD ky.1 ky.2
    obtain ⟨a1, a2, a3, a4⟩ := aftI_spec (low := l - 1) (by omega) rx.1 rx.2 ry.1 ry.2
    have hne : aftI (l - 1) (kkey L x) (kkey L y) ≠ l := fun e => e2 x y t rfl (by rw [e] at a3; exact a3)
    have he : aftI l (kkey L x) (kkey L y) = aftI (l - 1) (kkey L x) (kkey L y) :=
      aftI_eq (by omega) rx.1 rx.2 ry.1 ry.2 (by omega) a3 (fun k k1 k2 => a4 k (by omega) k2)
    simp only [meas]
    rw [show l + 1 - 1 = l by omega, he]
    omega
  · omega

end Go.Proofs.YtodmpcnpedpheaaGreatDoor

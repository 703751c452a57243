/- The store's Letter, Pair and Power in all cases of a Make. -/
import Derived.Test.YtclpndigmidjkaaGreatQMk4
import Derived.Test.YtclpndigmidjkaaGreatQSt9
import Derived.Test.YtclpndigmidjkaaGreatQd
import Derived.Test.YtclpndigmidjkaaGreatQLenM
set_option linter.unusedSimpArgs false
set_option linter.unusedVariables false
namespace Go.Proofs.YtclpndigmidjkaaGreat
open Go.RowKit

set_option maxRecDepth 100000 in
set_option maxHeartbeats 1000000 in
theorem st_Pair_l0 {w : World} {p mb : Nat} {most : Int} {sv : Value} {L : List Ent} (hS : St w p mb most sv L) (l r : Int) (hl : isKnown L l) (hr : isKnown L r) (l0 : l = 0) :
    Calls Tryz.prog 57 #[.pointer (some ⟨p, 0, none⟩), .int .i64 l, .int .i64 r] w fun e w' => e = .returned (.tuple #[.int .i64 r, .nilIface]) ∧ Fr0 w w' := by
  have K1 := Lib.hid (fun w' (hf : Fr0 w w') => st_known_yes (hS.kept0 hf) l hl)
  have K2 := Lib.hid (fun w' (hf : Fr0 w w') => st_known_yes (hS.kept0 hf) r hr)
  have hl0 : (l == 0) = true := beq_iff_eq.2 l0
  clear hS hl hr l0
  go_enter Tryz.func57, Tryz.ntmps57
  go_wp2_with fail
  refine (K1.out _ (Fr0.refl w)).mono ?_
  rintro e w' ⟨rfl, rfl⟩
  go_wp2_with fail
  refine (K2.out _ (Fr0.refl w)).mono ?_
  rintro e w' ⟨rfl, rfl⟩
  go_wp2_with fail
  go_ret2
  exact ⟨rfl, Fr0.refl w⟩

set_option maxRecDepth 100000 in
set_option maxHeartbeats 1000000 in
theorem st_Pair_r0 {w : World} {p mb : Nat} {most : Int} {sv : Value} {L : List Ent} (hS : St w p mb most sv L) (l r : Int) (hl : isKnown L l) (hr : isKnown L r) (l0 : l ≠ 0) (r0 : r = 0) :
    Calls Tryz.prog 57 #[.pointer (some ⟨p, 0, none⟩), .int .i64 l, .int .i64 r] w fun e w' => e = .returned (.tuple #[.int .i64 l, .nilIface]) ∧ Fr0 w w' := by
  have K1 := Lib.hid (fun w' (hf : Fr0 w w') => st_known_yes (hS.kept0 hf) l hl)
  have K2 := Lib.hid (fun w' (hf : Fr0 w w') => st_known_yes (hS.kept0 hf) r hr)
  have hl0 : (l == 0) = false := beq_eq_false_iff_ne.2 l0
  have hr0 : (r == 0) = true := beq_iff_eq.2 r0
  clear hS hl hr l0 r0
  go_enter Tryz.func57, Tryz.ntmps57
  go_wp2_with fail
  refine (K1.out _ (Fr0.refl w)).mono ?_
  rintro e w' ⟨rfl, rfl⟩
  go_wp2_with fail
  refine (K2.out _ (Fr0.refl w)).mono ?_
  rintro e w' ⟨rfl, rfl⟩
  go_wp2_with fail
  go_ret2
  exact ⟨rfl, Fr0.refl w⟩

set_option maxRecDepth 100000 in
set_option maxHeartbeats 1000000 in
theorem st_Pair_long {w : World} {p mb : Nat} {most : Int} {sv : Value} {L : List Ent} (hS : St w p mb most sv L) (hO : SOk L) (l r : Int) (hl : isKnown L l) (hr : isKnown L r) (l0 : l ≠ 0) (r0 : r ≠ 0) (hlen : 1152921504606846976 < (entAt L l).wt.len + (entAt L r).wt.len) :
    Calls Tryz.prog 57 #[.pointer (some ⟨p, 0, none⟩), .int .i64 l, .int .i64 r] w fun e w' => e = .returned (.tuple #[.int .i64 0, .iface 52 (.int .i64 2)]) ∧ Fr0 w w' := by
  have K1 := Lib.hid (fun w' (hf : Fr0 w w') => st_known_yes (hS.kept0 hf) l hl)
  have K2 := Lib.hid (fun w' (hf : Fr0 w w') => st_known_yes (hS.kept0 hf) r hr)
  have a1 := fun w' (hf : Fr0 w w') => st_at (hS.kept0 hf) l hl
  have a2 := fun w' (hf : Fr0 w w') => st_at (hS.kept0 hf) r hr
  have q1 := (hO.at l hl).1
  have q2 := (hO.at r hr).1
  generalize entAt L l = x at *
  generalize entAt L r = y at *
  have CA := Lib.hid (fun w' => len_Add_long x.wt.len y.wt.len w' q1.len0 q1.len1 q2.len0 q2.len1 hlen)
  have A1 := Lib.hid a1
  have A2 := Lib.hid a2
  have hl0 : (l == 0) = false := by simpa using l0
  have hr0 : (r == 0) = false := by simpa using r0
  clear hS a1 a2 hO l0 r0 hl hr q1 q2 hlen
  go_enter Tryz.func57, Tryz.ntmps57
  go_wp2_with fail
  refine (K1.out _ (Fr0.refl w)).mono ?_
  rintro e w' ⟨rfl, rfl⟩
  go_wp2_with fail
  refine (K2.out _ (Fr0.refl w)).mono ?_
  rintro e w' ⟨rfl, rfl⟩
  go_wp2_with fail
  refine (A1.out _ (Fr0.refl w)).mono ?_
  rintro e w1 ⟨rfl, hf1⟩
  go_wp2_with fail
  refine (A2.out _ hf1).mono ?_
  rintro e w2 ⟨rfl, hf2⟩
  have hW2 := hf1.trans hf2
  clear hf1 hf2
  go_wp2_with fail
  refine (CA.out _).mono ?_
  rintro e w' ⟨rfl, rfl⟩
  go_wp2_with fail
  go_ret2
  exact ⟨rfl, (hW2.alloc _).alloc _⟩

set_option maxRecDepth 100000 in
set_option maxHeartbeats 1000000 in
theorem st_Power_zero {w : World} {p mb : Nat} {most : Int} {sv : Value} {L : List Ent} (hS : St w p mb most sv L) (l k : Int) (hl : isKnown L l) (hk : 0 ≤ k) (h0 : k = 0 ∨ l = 0) :
    Calls Tryz.prog 56 #[.pointer (some ⟨p, 0, none⟩), .int .i64 l, .int .i64 k] w fun e w' => e = .returned (.tuple #[.int .i64 0, .nilIface]) ∧ Fr0 w w' := by
  have K1 := Lib.hid (fun w' (hf : Fr0 w w') => st_known_yes (hS.kept0 hf) l hl)
  have hq : (k == 0) = true ∨ ((k == 0) = false ∧ (l == 0) = true) := by
    by_cases h : k = 0
    · exact .inl (beq_iff_eq.2 h)
    · exact .inr ⟨beq_eq_false_iff_ne.2 h, beq_iff_eq.2 (h0.resolve_left h)⟩
  clear hS hl h0
  rcases hq with q1 | ⟨q1, q2⟩
  · go_enter Tryz.func56, Tryz.ntmps56
    go_wp2_with fail
    refine (K1.out _ (Fr0.refl w)).mono ?_
    rintro e w' ⟨rfl, rfl⟩
    go_wp2_with fail
    go_ret2
    exact ⟨rfl, Fr0.refl w⟩
  · go_enter Tryz.func56, Tryz.ntmps56
    go_wp2_with fail
    refine (K1.out _ (Fr0.refl w)).mono ?_
    rintro e w' ⟨rfl, rfl⟩
    go_wp2_with fail
    go_ret2
    exact ⟨rfl, Fr0.refl w⟩

set_option maxRecDepth 100000 in
set_option maxHeartbeats 1000000 in
theorem st_Power_one {w : World} {p mb : Nat} {most : Int} {sv : Value} {L : List Ent} (hS : St w p mb most sv L) (l k : Int) (hl : isKnown L l) (l0 : l ≠ 0) (hk : k = 1) :
    Calls Tryz.prog 56 #[.pointer (some ⟨p, 0, none⟩), .int .i64 l, .int .i64 k] w fun e w' => e = .returned (.tuple #[.int .i64 l, .nilIface]) ∧ Fr0 w w' := by
  have K1 := Lib.hid (fun w' (hf : Fr0 w w') => st_known_yes (hS.kept0 hf) l hl)
  have hl0 : (l == 0) = false := beq_eq_false_iff_ne.2 l0
  have hk0 : (k == 0) = false := beq_eq_false_iff_ne.2 (by omega)
  have hk1 : (k == 1) = true := beq_iff_eq.2 hk
  have hk2 : (0 : Int) ≤ k := by omega
  clear hS hl l0 hk
  go_enter Tryz.func56, Tryz.ntmps56
  go_wp2_with fail
  refine (K1.out _ (Fr0.refl w)).mono ?_
  rintro e w' ⟨rfl, rfl⟩
  go_wp2_with fail
  go_ret2
  exact ⟨rfl, Fr0.refl w⟩

set_option maxRecDepth 100000 in
set_option maxHeartbeats 1000000 in
theorem st_Power_long {w : World} {p mb : Nat} {most : Int} {sv : Value} {L : List Ent} (hS : St w p mb most sv L) (hO : SOk L) (l k : Int) (hl : isKnown L l) (l0 : l ≠ 0) (hk : 2 ≤ k) (hlen : 1152921504606846976 < (entAt L l).wt.len * k) :
    Calls Tryz.prog 56 #[.pointer (some ⟨p, 0, none⟩), .int .i64 l, .int .i64 k] w fun e w' => e = .returned (.tuple #[.int .i64 0, .iface 52 (.int .i64 2)]) ∧ Fr0 w w' := by
  have K1 := Lib.hid (fun w' (hf : Fr0 w w') => st_known_yes (hS.kept0 hf) l hl)
  have a1 := fun w' (hf : Fr0 w w') => st_at (hS.kept0 hf) l hl
  have q1 := (hO.at l hl).1.len1
  have q2 := ((hO.at l hl).2.2.2 l0).1
  generalize entAt L l = x at *
  have CM := Lib.hid (fun w' => len_Mul_long x.wt.len k w' q2 (by omega) hlen q1)
  have A1 := Lib.hid a1
  have hl0 : (l == 0) = false := by simpa using l0
  have hk0 : (k == 0) = false := beq_eq_false_iff_ne.2 (by omega)
  have hk1 : (k == 1) = false := beq_eq_false_iff_ne.2 (by omega)
  have hk2 : (0 : Int) ≤ k := by omega
  clear hS a1 hO l0 hl hlen
  go_enter Tryz.func56, Tryz.ntmps56
  go_wp2_with fail
  refine (K1.out _ (Fr0.refl w)).mono ?_
  rintro e w' ⟨rfl, rfl⟩
  go_wp2_with fail
  refine (A1.out _ (Fr0.refl w)).mono ?_
  rintro e w1 ⟨rfl, hf1⟩
  go_wp2_with fail
  refine (CM.out _).mono ?_
  rintro e w' ⟨rfl, rfl⟩
  go_wp2_with fail
  go_ret2
  exact ⟨rfl, hf1.alloc _⟩

/-- What a store's operation leaves: the ID (the error is free). -/
def MkPost (B : Nat) (w : World) (p mb : Nat) (most : Int) (L' : List Ent) (id : Int) (e : Ending) (w' : World) : Prop :=
  ∃ ev, e = .returned (.tuple #[.int .i64 id, ev]) ∧ Sto B w' p mb most L' ∧ Kp B mb w w'

theorem MkPost.same {B : Nat} {w w' : World} {p mb : Nat} {most : Int} {L : List Ent} (hS : Sto B w p mb most L) {id : Int} {ev : Value} (hf : Fr0 w w') : MkPost B w p mb most L id (.returned (.tuple #[.int .i64 id, ev])) w' := ⟨ev, rfl, hS.kept0 hf, Kp.of0 hf⟩

theorem sto_Letter' {B : Nat} {w : World} {p mb : Nat} {most : Int} {L : List Ent} (hS : Sto B w p mb most L) (hB : B ≤ w.heap.size) (b : Int) (h0 : 0 ≤ b) (h1 : b < 256) (hm : (L.length : Int) < most) (hL : L.length < 1048576) :
    Calls Tryz.prog 55 #[.pointer (some ⟨p, 0, none⟩), .int .u8 b] w (MkPost B w p mb most (addL L (letterEnt b)) (addI L (letterEnt b))) := by
  obtain ⟨sv, hS', s1, s2, s3⟩ := hS
  refine (st_Letter hS' b h0 h1 hm hL).mono ?_
  rintro e w' ⟨rfl, hst⟩
  obtain ⟨q1, q2⟩ := Sto.step hS' s1 s2 s3 hB hst
  exact ⟨_, rfl, q1, q2⟩

theorem sto_PairM {B : Nat} {w : World} {p mb : Nat} {most : Int} {L : List Ent} (hS : Sto B w p mb most L) (hB : B ≤ w.heap.size) (hO : SOk L) (l r : Int) (hl : isKnown L l) (hr : isKnown L r) (hm : (L.length : Int) < most) (hL : L.length < 1048576) :
    Calls Tryz.prog 57 #[.pointer (some ⟨p, 0, none⟩), .int .i64 l, .int .i64 r] w (MkPost B w p mb most (if l = 0 then L else if r = 0 then L else if MaxL - (entAt L r).wt.len < (entAt L l).wt.len then L else addL L (pairEnt L l r)) (if l = 0 then r else if r = 0 then l else if MaxL - (entAt L r).wt.len < (entAt L l).wt.len then 0 else addI L (pairEnt L l r))) := by
  obtain ⟨sv, hS', s1, s2, s3⟩ := id hS
  unfold MaxL
  by_cases l0 : l = 0
  · rw [if_pos l0, if_pos l0]
    refine (st_Pair_l0 hS' l r hl hr l0).mono ?_
    rintro e w' ⟨rfl, hf⟩
    exact MkPost.same hS hf
  · rw [if_neg l0, if_neg l0]
    by_cases r0 : r = 0
    · rw [if_pos r0, if_pos r0]
      refine (st_Pair_r0 hS' l r hl hr l0 r0).mono ?_
      rintro e w' ⟨rfl, hf⟩
      exact MkPost.same hS hf
    · rw [if_neg r0, if_neg r0]
      by_cases hd : 1152921504606846976 - (entAt L r).wt.len < (entAt L l).wt.len
      · rw [if_pos hd, if_pos hd]
        refine (st_Pair_long hS' hO l r hl hr l0 r0 (by omega)).mono ?_
        rintro e w' ⟨rfl, hf⟩
        exact MkPost.same hS hf
      · rw [if_neg hd, if_neg hd]
        refine (st_Pair hS' hO l r hl hr l0 r0 (by omega) hm hL).mono ?_
        rintro e w' ⟨rfl, hst⟩
        obtain ⟨q1, q2⟩ := Sto.step hS' s1 s2 s3 hB hst
        exact ⟨_, rfl, q1, q2⟩

theorem sto_PowerM {B : Nat} {w : World} {p mb : Nat} {most : Int} {L : List Ent} (hS : Sto B w p mb most L) (hB : B ≤ w.heap.size) (hO : SOk L) (l t : Int) (hl : isKnown L l) (hm : (L.length : Int) < most) (hL : L.length < 1048576) :
    Calls Tryz.prog 56 #[.pointer (some ⟨p, 0, none⟩), .int .i64 l, .int .i64 (max t 0)] w (MkPost B w p mb most (if l = 0 ∨ t ≤ 0 ∨ MaxL / (entAt L l).wt.len < t then L else if t = 1 then L else addL L (powEnt L l t)) (if l = 0 ∨ t ≤ 0 ∨ MaxL / (entAt L l).wt.len < t then 0 else if t = 1 then l else addI L (powEnt L l t))) := by
  obtain ⟨sv, hS', s1, s2, s3⟩ := id hS
  unfold MaxL
  by_cases h0 : max t 0 = 0 ∨ l = 0
  · rw [if_pos (by rcases h0 with h | h; exact .inr (.inl (by omega)); exact .inl h), if_pos (by rcases h0 with h | h; exact .inr (.inl (by omega)); exact .inl h)]
    refine (st_Power_zero hS' l (max t 0) hl (by omega) h0).mono ?_
    rintro e w' ⟨rfl, hf⟩
    exact MkPost.same hS hf
  · have l0 : l ≠ 0 := fun h => h0 (.inr h)
    have t0 : 0 < t := by
      rcases Int.lt_or_le 0 t with h | h
      · exact h
      · exact absurd (.inl (by omega)) h0
    have hn := ((hO.at l hl).2.2.2 l0).1
    have hmx : max t 0 = t := by omega
    rw [hmx]
    by_cases hd : 1152921504606846976 / (entAt L l).wt.len < t
    · rw [if_pos (.inr (.inr hd)), if_pos (.inr (.inr hd))]
      have hlong : 1152921504606846976 < (entAt L l).wt.len * t := by
        rcases Int.lt_or_le 1152921504606846976 ((entAt L l).wt.len * t) with h | h
        · exact h
        · have := (Int.le_ediv_iff_mul_le (show 0 < (entAt L l).wt.len by omega)).2 (by rw [Int.mul_comm]; exact h)
          omega
      have ht2 : 2 ≤ t := by
        rcases Int.lt_or_le t 2 with h | h
        · have h1 : t = 1 := by omega
          have := (hO.at l hl).1.len1
          rw [h1, Int.mul_one] at hlong
          omega
        · exact h
      refine (st_Power_long hS' hO l t hl l0 ht2 hlong).mono ?_
      rintro e w' ⟨rfl, hf⟩
      exact MkPost.same hS hf
    · have hno : ¬ (l = 0 ∨ t ≤ 0 ∨ 1152921504606846976 / (entAt L l).wt.len < t) := by
        rintro (h | h | h)
        · exact l0 h
        · omega
        · exact hd h
      rw [if_neg hno, if_neg hno]
      by_cases t1 : t = 1
      · rw [if_pos t1, if_pos t1]
        refine (st_Power_one hS' l t hl l0 t1).mono ?_
        rintro e w' ⟨rfl, hf⟩
        exact MkPost.same hS hf
      · rw [if_neg t1, if_neg t1]
        have hlen : (entAt L l).wt.len * t ≤ 1152921504606846976 := by
          have := (Int.le_ediv_iff_mul_le (show 0 < (entAt L l).wt.len by omega)).1 (show t ≤ 1152921504606846976 / (entAt L l).wt.len by omega)
          rw [Int.mul_comm]; exact this
        obtain ⟨k, rfl⟩ : ∃ k : Nat, t = k := ⟨t.toNat, by omega⟩
        refine (st_Power hS' hO l k hl l0 (by omega) hlen hm hL).mono ?_
        rintro e w' ⟨rfl, hst⟩
        obtain ⟨q1, q2⟩ := Sto.step hS' s1 s2 s3 hB hst
        exact ⟨_, rfl, q1, q2⟩

end Go.Proofs.YtclpndigmidjkaaGreat

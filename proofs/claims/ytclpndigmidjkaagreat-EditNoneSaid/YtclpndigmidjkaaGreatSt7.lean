/- The walk of Pair where the rule is new. -/
import Derived.Test.YtclpndigmidjkaaGreatSt6
set_option linter.unusedSimpArgs false
set_option linter.unusedVariables false
namespace Go.Proofs.YtclpndigmidjkaaGreat
open Go.RowKit

set_option maxRecDepth 100000 in
set_option maxHeartbeats 2000000 in
theorem st_Pair_none {w : World} {p mb : Nat} {most : Int} {sv : Value} {L : List Ent} (hS : St w p mb most sv L) (hO : SOk L) (l r : Int) (hl : isKnown L l) (hr : isKnown L r) (l0 : l ≠ 0) (r0 : r ≠ 0)
    (hlen : (entAt L l).wt.len + (entAt L r).wt.len ≤ 1152921504606846976) (hj : ruleIdx (pairEnt L l r).rule L = none) (hm : (L.length : Int) < most) (hL : L.length < 1048576) :
    Calls Tryz.prog 57 #[.pointer (some ⟨p, 0, none⟩), .int .i64 l, .int .i64 r] w fun e w' => e = .returned (.tuple #[.int .i64 ((L.length : Int) + 1), .nilIface]) ∧ Stepped w w' p mb most sv (L ++ [pairEnt L l r]) := by
  have CF := Lib.hid (fun w' (hf : Fr0 w w') => st_find_none (hS.kept0 hf) ⟨2, 0, l, r, 0⟩ hj hm)
  have K1 := Lib.hid (fun w' (hf : Fr0 w w') => st_known_yes (hS.kept0 hf) l hl)
  have K2 := Lib.hid (fun w' (hf : Fr0 w w') => st_known_yes (hS.kept0 hf) r hr)
  have a1 := fun w' (hf : Fr0 w w') => st_at (hS.kept0 hf) l hl
  have a2 := fun w' (hf : Fr0 w w') => st_at (hS.kept0 hf) r hr
  obtain ⟨v1, v2, v3, v4⟩ := hO.at l hl
  obtain ⟨u1, u2, u3, u4⟩ := hO.at r hr
  have q1 := v1.len0
  have q2 := u1.len0
  have cj : ∀ w', Calls Tryz.prog 98 #[.agg #[.int .i64 (entAt L l).wt.len, .int .i64 (entAt L l).wt.lines, .int .i64 (entAt L l).wt.head, .int .i64 (entAt L l).wt.tail, .int .u64 (entAt L l).wt.val, .int .u64 (entAt L l).wt.scale],
      .agg #[.int .i64 (entAt L r).wt.len, .int .i64 (entAt L r).wt.lines, .int .i64 (entAt L r).wt.head, .int .i64 (entAt L r).wt.tail, .int .u64 (entAt L r).wt.val, .int .u64 (entAt L r).wt.scale]] w'
      fun e w'' => e = .returned (.tuple #[.agg #[.int .i64 ((entAt L l).wt.join (entAt L r).wt).len, .int .i64 ((entAt L l).wt.join (entAt L r).wt).lines, .int .i64 ((entAt L l).wt.join (entAt L r).wt).head, .int .i64 ((entAt L l).wt.join (entAt L r).wt).tail, .int .u64 ((entAt L l).wt.join (entAt L r).wt).val, .int .u64 ((entAt L l).wt.join (entAt L r).wt).scale], .nilIface]) ∧ Fr0 w' w'' :=
    fun w' => wt_Join _ _ w' v1 u1 hlen
  have ca := fun (ev : Bool) (t : Wt) (d : Int) w' (hf : Fr0 w w') => st_add' (hS.kept0 hf) ⟨⟨2, 0, l, r, 0⟩, t, d, ev⟩ hj hL
  have hx : pairEnt L l r = ⟨⟨2, 0, l, r, 0⟩, (entAt L l).wt.join (entAt L r).wt, 1 + max (entAt L l).depth (entAt L r).depth,
    (entAt L l).even && (entAt L r).even && decide (-1 ≤ (entAt L l).depth - (entAt L r).depth) && decide ((entAt L l).depth - (entAt L r).depth ≤ 1)⟩ := rfl
  rw [hx]
  have LP := lt_of_block hS.ptr
  have LM := lt_of_block hS.mp
  have lv : ∀ k, sv.ownBlock = some k → k < w.heap.size := fun k hk => (hS.own.lt k hk).2
  have LV := Lib.hid lv
  generalize (entAt L l).wt.join (entAt L r).wt = t at *
  generalize entAt L l = x at *
  generalize entAt L r = y at *
  obtain ⟨ev, hev⟩ : ∃ b, (x.even && y.even && decide (-1 ≤ x.depth - y.depth) && decide (x.depth - y.depth ≤ 1)) = b := ⟨_, rfl⟩
  rw [hev]
  have HEV := Lib.hid hev
  have A1 := Lib.hid a1
  have A2 := Lib.hid a2
  have CJ := Lib.hid cj
  have CA := Lib.hid ca
  have hl0 : (l == 0) = false := by simpa using l0
  have hr0 : (r == 0) = false := by simpa using r0
  clear hS hj a1 a2 hO l0 r0 hl hr cj ca hx hev lv v1 v4 u1 u4
  go_enter Tryz.func57, Tryz.ntmps57
  go_wp2_with fail
  refine (K1.out _ (Fr0.refl w)).mono ?_
  rintro e w' ⟨rfl, rfl⟩
  go_wp2_with fail
  refine (K2.out _ (Fr0.refl w)).mono ?_
  rintro e w' ⟨rfl, rfl⟩
  go_wp2_with fail
  refine (A1.out _ (Fr0.refl w)).mono ?_
  rintro e w1 ⟨rfl, hf1⟩
  go_wp2_with fail
  refine (A2.out _ hf1).mono ?_
  rintro e w2 ⟨rfl, hf2⟩
  have hW2 := hf1.trans hf2
  clear hf1 hf2
  go_wp2_with fail
  refine (len_Add_ok _ _ _ q1 q2 hlen).mono ?_
  rintro e w' ⟨rfl, rfl⟩
  go_wp2_with fail
  refine (CF.out _ (((hW2.alloc _).alloc _).alloc _)).mono ?_
  rintro e w4 ⟨rfl, hf4⟩
  have hx4 := hf4.kept (alloc3_0 _ _ _ _)
  have hy4 := hf4.kept (alloc3_1 _ _ _ _)
  have hr4 := hf4.kept (alloc3_2 _ _ _ _)
  have hW4 := (((hW2.alloc _).alloc _).alloc _).trans hf4
  clear hf4 hW2 CF K1 K2 A1 A2
  generalize w2.heap.size = N at *
  clear w2
  obtain ⟨x5, x6, x7, x8, x9, x10, x11, x12, lx⟩ := cells13 hx4
  obtain ⟨y5, y6, y7, y8, y9, y10, y11, y12, ly⟩ := cells13 hy4
  obtain ⟨r1, r2, r3, r4, r5, lr⟩ := cells5 hr4
  go_wp2_with fail
  refine (CJ.out _).mono ?_
  rintro e w5 ⟨rfl, hf5⟩
  have hx5 := hf5.kept hx4
  have hy5 := hf5.kept hy4
  have hr5 := hf5.kept hr4
  have hW5 := hW4.trans hf5
  clear hf5 hW4 x5 x6 x7 x8 x9 x10 x11 x12 lx y5 y6 y7 y8 y9 y10 y11 y12 ly r1 r2 r3 r4 r5 lr hx4 hy4 hr4 CJ
  clear w4
  obtain ⟨x5, x6, x7, x8, x9, x10, x11, x12, lx⟩ := cells13 hx5
  obtain ⟨y5, y6, y7, y8, y9, y10, y11, y12, ly⟩ := cells13 hy5
  have hr5' : w5.heap[N + 1 + 1]? = some (.cells #[.int .i64 2, .int .u8 0, .int .i64 l, .int .i64 r, .int .i64 0] 132 (0, 0)) := hr5
  obtain ⟨r1, r2, r3, r4, r5, lr⟩ := cells5 hr5'
  clear hr5 hr5'
  clear x5 x6 x7 x8 x9 x10 y5 y6 y7 y8 y9 y10
  have n1 : ¬ w5.heap.size = N := by omega
  have n2 : ¬ w5.heap.size = N + 1 := by omega
  have n3 : ¬ w5.heap.size = N + 1 + 1 := by omega
  go_upto_region 21 with fail
  have fin : ∀ (b : Bool) (d : Int), b = ev → d = 1 + max x.depth y.depth → Hid (∀ w', Fr0 w w' → Calls Tryz.prog 92 #[.pointer (some ⟨p, 0, none⟩), .agg #[.int .i64 2, .int .u8 0, .int .i64 l, .int .i64 r, .int .i64 0, .int .i64 t.len, .int .i64 t.lines, .int .i64 t.head, .int .i64 t.tail, .int .u64 t.val, .int .u64 t.scale, .int .i64 d, .bool b]] w' fun e w'' => e = .returned (.int .i64 ((L.length : Int) + 1)) ∧ Stepped w' w'' p mb most sv (L ++ [⟨⟨2, 0, l, r, 0⟩, t, 1 + max x.depth y.depth, ev⟩])) :=
    fun b d hb hd => by subst hb; subst hd; exact fun w' hf => CA.out b t (1 + max x.depth y.depth) w' hf
  have FIN := Lib.hid fin
  clear CA fin
  by_cases hmax : x.depth < y.depth
  · cases hxe : x.even with
    | false =>
      rw [hxe] at x12
      have C := FIN.out false (1 + y.depth) (by rw [← HEV.out]; simp [hxe]) (by omega)
      clear FIN HEV
      go_wp2_with fail
      refine (C.out _ (hW5.alloc _)).mono ?_
      rintro e w6 ⟨rfl, hst⟩
      go_wp2_with fail
      go_ret2
      exact ⟨rfl, hst.before (hW5.alloc _)⟩
    | true =>
      rw [hxe] at x12
      cases hye : y.even with
      | false =>
        rw [hye] at y12
        have C := FIN.out false (1 + y.depth) (by rw [← HEV.out]; simp [hxe, hye]) (by omega)
        clear FIN HEV
        go_wp2_with fail
        refine (C.out _ (hW5.alloc _)).mono ?_
        rintro e w6 ⟨rfl, hst⟩
        go_wp2_with fail
        go_ret2
        exact ⟨rfl, hst.before (hW5.alloc _)⟩
      | true =>
        rw [hye] at y12
        by_cases hc1 : -1 ≤ x.depth - y.depth
        · have hc2 : x.depth - y.depth ≤ 1 := by omega
          have C := FIN.out true (1 + y.depth) (by rw [← HEV.out]; simp [hxe, hye, hc1, hc2]) (by omega)
          clear FIN HEV
          go_wp2_with fail
          refine (C.out _ (hW5.alloc _)).mono ?_
          rintro e w6 ⟨rfl, hst⟩
          go_wp2_with fail
          go_ret2
          exact ⟨rfl, hst.before (hW5.alloc _)⟩
        · have hd1 : decide (-1 ≤ x.depth - y.depth) = false := decide_eq_false hc1
          have C := FIN.out false (1 + y.depth) (by rw [← HEV.out]; simp [hxe, hye, hd1]) (by omega)
          clear FIN HEV
          go_wp2_with fail
          refine (C.out _ (hW5.alloc _)).mono ?_
          rintro e w6 ⟨rfl, hst⟩
          go_wp2_with fail
          go_ret2
          exact ⟨rfl, hst.before (hW5.alloc _)⟩
  · cases hxe : x.even with
    | false =>
      rw [hxe] at x12
      have C := FIN.out false (1 + x.depth) (by rw [← HEV.out]; simp [hxe]) (by omega)
      clear FIN HEV
      go_wp2_with fail
      refine (C.out _ (hW5.alloc _)).mono ?_
      rintro e w6 ⟨rfl, hst⟩
      go_wp2_with fail
      go_ret2
      exact ⟨rfl, hst.before (hW5.alloc _)⟩
    | true =>
      rw [hxe] at x12
      cases hye : y.even with
      | false =>
        rw [hye] at y12
        have C := FIN.out false (1 + x.depth) (by rw [← HEV.out]; simp [hxe, hye]) (by omega)
        clear FIN HEV
        go_wp2_with fail
        refine (C.out _ (hW5.alloc _)).mono ?_
        rintro e w6 ⟨rfl, hst⟩
        go_wp2_with fail
        go_ret2
        exact ⟨rfl, hst.before (hW5.alloc _)⟩
      | true =>
        rw [hye] at y12
        have hc1 : -1 ≤ x.depth - y.depth := by omega
        by_cases hc2 : x.depth - y.depth ≤ 1
        · have C := FIN.out true (1 + x.depth) (by rw [← HEV.out]; simp [hxe, hye, hc1, hc2]) (by omega)
          clear FIN HEV
          go_wp2_with fail
          refine (C.out _ (hW5.alloc _)).mono ?_
          rintro e w6 ⟨rfl, hst⟩
          go_wp2_with fail
          go_ret2
          exact ⟨rfl, hst.before (hW5.alloc _)⟩
        · have hd2 : decide (x.depth - y.depth ≤ 1) = false := decide_eq_false hc2
          have C := FIN.out false (1 + x.depth) (by rw [← HEV.out]; simp [hxe, hye, hc1, hd2]) (by omega)
          clear FIN HEV
          go_wp2_with fail
          refine (C.out _ (hW5.alloc _)).mono ?_
          rintro e w6 ⟨rfl, hst⟩
          go_wp2_with fail
          go_ret2
          exact ⟨rfl, hst.before (hW5.alloc _)⟩

end Go.Proofs.YtclpndigmidjkaaGreat

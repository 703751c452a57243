/- The walks of digest.Repeat and weight.Repeat. -/
import Derived.Test.YtgldjpldldknoaaGreatDoorRWt3
import Derived.Test.YtgldjpldldknoaaGreatDoorRBase
set_option linter.unusedSimpArgs false
set_option linter.unusedVariables false
namespace Go.Proofs.YtgldjpldldknoaaGreatDoor
open Go.RowKit
theorem set2 {w : World} {b : Nat} {t : TypeId} {f : Nat × Nat} {a0 a1 v0 v1 : Value} (h : w.heap[b]? = some (.cells #[a0, a1] t f)) :
    ((w.setCell ⟨b, 0, none⟩ v0).setCell ⟨b, 1, none⟩ v1).heap[b]? = some (.cells #[v0, v1] t f) := setCell_block (setCell_block h 0 v0) 1 v1
theorem set2_other {w : World} {b c : Nat} {v0 v1 : Value} (h : c ≠ b) : ((w.setCell ⟨b, 0, none⟩ v0).setCell ⟨b, 1, none⟩ v1).heap[c]? = w.heap[c]? := by
 rw [setCell_other _ _ h, setCell_other _ _ h]
theorem cells2 {w : World} {b : Nat} {x y : Value} {t : TypeId} (h : w.heap[b]? = some (.cells #[x, y] t (0, 0))) :
    w.cell? ⟨b, 0, none⟩ = some x ∧ w.cell? ⟨b, 1, none⟩ = some y ∧ (∀ o, w.frozen? ⟨b, o, none⟩ = false) ∧ b < w.heap.size :=
 ⟨by rw [cell_of_block h]; rfl, by rw [cell_of_block h]; rfl, fun o => frozen_of_block h o, lt_of_block h⟩
theorem dig_JoinD (d e : Int × Int) (w : World) (hd : dred d) (he : dred e) :
    Calls Tryz.prog 73 #[.agg #[.int .u64 d.1, .int .u64 d.2], .agg #[.int .u64 e.1, .int .u64 e.2]] w fun x w' => x = .returned (.agg #[.int .u64 (djoin d e).1, .int .u64 (djoin d e).2]) ∧ Fr0 w w' := by
 obtain ⟨⟨a1, a2⟩, a3, a4⟩ := hd
 obtain ⟨⟨b1, b2⟩, b3, b4⟩ := he
 exact dig_Join d.1 d.2 e.1 e.2 w a1 (by omega) a3 (by omega) b1 (by omega) b3 (by omega)
theorem dstep_odd (e r : Int × Int) (he : dred e) (n : Nat) (h : n % 2 = 1) : djoin (djoin r e) (dpow (djoin e e) (n / 2)) = djoin r (dpow e n) := by
 rw [dpow_double e he, djoin_assoc]
 congr 1
 have h1 : dpow e 1 = e := djoin_unit_left he
 have h2 := dpow_add e he 1 (2 * (n / 2))
 rw [h1] at h2
 rw [← h2]
 congr 1
 omega
theorem dstep_even (e r : Int × Int) (he : dred e) (n : Nat) (h : n % 2 = 0) : djoin r (dpow (djoin e e) (n / 2)) = djoin r (dpow e n) := by
 rw [dpow_double e he]
 congr 2
 omega
end Go.Proofs.YtgldjpldldknoaaGreatDoor
/- The walk of weight.Repeat. -/
set_option linter.unusedSimpArgs false
set_option linter.unusedVariables false
namespace Go.Proofs.YtgldjpldldknoaaGreatDoor
open Go.RowKit
theorem cells6 {w : World} {b : Nat} {x0 x1 x2 x3 x4 x5 : Value} {t : TypeId} (h : w.heap[b]? = some (.cells #[x0, x1, x2, x3, x4, x5] t (0, 0))) :
    w.cell? ⟨b, 0, none⟩ = some x0 ∧ w.cell? ⟨b, 1, none⟩ = some x1 ∧ w.cell? ⟨b, 2, none⟩ = some x2 ∧ w.cell? ⟨b, 3, none⟩ = some x3 ∧ w.cell? ⟨b, 4, none⟩ = some x4 ∧ w.cell? ⟨b, 5, none⟩ = some x5 ∧
    (∀ o, w.frozen? ⟨b, o, none⟩ = false) ∧ b < w.heap.size :=
 ⟨by rw [cell_of_block h]; rfl, by rw [cell_of_block h]; rfl, by rw [cell_of_block h]; rfl, by rw [cell_of_block h]; rfl, by rw [cell_of_block h]; rfl, by rw [cell_of_block h]; rfl, fun o => frozen_of_block h o, lt_of_block h⟩
end Go.Proofs.YtgldjpldldknoaaGreatDoor
/- The walks of digest.Repeat and weight.Repeat. -/
set_option linter.unusedSimpArgs false
set_option linter.unusedVariables false
namespace Go.Proofs.YtgldjpldldknoaaGreatDoor
open Go.RowKit
set_option maxRecDepth 100000 in
set_option maxHeartbeats 2000000 in
theorem dig_Repeat (d : Int × Int) (k : Nat) (w : World) (hd : dred d) (hk : k < 9223372036854775808) :
    Calls Tryz.prog 117 #[.agg #[.int .u64 d.1, .int .u64 d.2], .int .i64 k] w fun x w' => x = .returned (.agg #[.int .u64 (dpow d k).1, .int .u64 (dpow d k).2]) ∧ Fr0 w w' := by
 have h0 : djoin (0, 1) (dpow d k) = dpow d k := djoin_unit_left (dred_pow d k)
 generalize hR : dpow d k = R at *
 rw [← hR] at h0
 rw [hR] at h0
 have h1 : djoin (0, 1) (dpow d k) = R := by rw [hR]; exact h0
 have H1 := Lib.hid h1
 clear h0 hR h1
 go_enter Tryz.func117, Tryz.ntmps117
 go_wp2_with fail
 refine (dig_Unit _).mono ?_
 rintro e w1 ⟨rfl, hf1⟩
 have hs1 := hf1.size'
 simp at hs1
 have ha1 : w1.heap[w.heap.size]? = some (.cells #[.int .u64 d.1, .int .u64 d.2] 45 (0, 0)) := hf1.kept (alloc2_0 _ _ _)
 have hb1 : w1.heap[w.heap.size + 1]? = some (.cells #[.int .u64 0, .int .u64 0] 45 (0, 0)) := hf1.kept (alloc2_1 _ _ _)
 have hW1 : Fr0 w w1 := (((Fr0.refl w).alloc _).alloc _).trans hf1
 clear hf1
 generalize hA : w.heap.size = A at *
 have HA := Lib.hid hA
 clear hA
 have HA1 := Lib.hid ha1
 have HB1 := Lib.hid hb1
 clear ha1 hb1
 go_wp2_with fail
 generalize hD : w1.heap.size = D at *
 have HD := Lib.hid hD
 clear hD
 go_loopw [1] (fun v wr => ∃ (e r : Int × Int) (n : Nat), n ≤ k ∧ v = .int .i64 n ∧ dred e ∧ dred r ∧ Fr0 w wr ∧ wr.heap[A]? = some (.cells #[.int .u64 e.1, .int .u64 e.2] 45 (0, 0)) ∧ wr.heap[A + 1]? = some (.cells #[.int .u64 0, .int .u64 0] 45 (0, 0)) ∧
     wr.heap[D]? = some (.cells #[.int .u64 r.1, .int .u64 r.2] 45 (0, 0)) ∧ Hid (djoin r (dpow e n) = R)) (fun v _ => (intOf v).toNat)
 case atStart =>
  exact ⟨d, (0, 1), k, Nat.le_refl _, rfl, hd, ⟨⟨by decide, by decide⟩, by decide, by decide⟩, hW1.alloc _, (alloc_lt _ _ _ (by rw [HD.out]; omega)).trans HA1.out, (alloc_lt _ _ _ (by rw [HD.out]; omega)).trans HB1.out, alloc_at _ _ _ HD.out.symm, H1⟩
 case round =>
  obtain ⟨e, r, n, hn, rfl, he, hr, hWr, har, hbr, hDr, HK⟩ := hrel
  clear HA1 HB1 H1 hW1
  by_cases hn0 : 0 < n
  · by_cases ho : n % 2 = 1
    · have E1 := Lib.hid ((dstep_odd e r he n ho).trans HK.out)
      have ht : (((n : Int) % 2) == 1) = true := by simp; omega
      obtain ⟨cA0, cA1, fA, lA⟩ := cells2 har
      obtain ⟨cD0, cD1, fD, lD⟩ := cells2 hDr
      go_wp2_with fail
      refine (dig_JoinD r e _ hr he).mono ?_
      rintro x w2 ⟨rfl, hf2⟩
      have ha2 := hf2.kept har
      have hb2 := hf2.kept hbr
      have hd2 := hf2.kept hDr
      have hW2 := hWr.trans hf2
      clear cA0 cA1 fA lA cD0 cD1 fD lD har hbr hDr hWr hf2
      clear wr
      obtain ⟨cA0, cA1, fA, lA⟩ := cells2 ha2
      obtain ⟨cD0, cD1, fD, lD⟩ := cells2 hd2
      have n1 : ¬ A = D := by omega
      have n4 : ¬ D = A := by omega
      go_wp2_with fail
      refine (dig_JoinD e e _ he he).mono ?_
      rintro x w3 ⟨rfl, hf3⟩
      have ha3 := hf3.kept (b := A) ((set2_other n1).trans ha2)
      have hb3 := hf3.kept (b := A + 1) ((set2_other (by omega)).trans hb2)
      have hd3 := hf3.kept (b := D) (set2 hd2)
      have hW3 : Fr0 w w3 := ((hW2.setCell _ _ (by rw [HA.out]; dsimp only; omega)).setCell _ _ (by rw [HA.out]; dsimp only; omega)).trans hf3
      clear cA0 cA1 fA lA cD0 cD1 fD lD ha2 hb2 hd2 hW2 hf3
      clear w2
      obtain ⟨cA0, cA1, fA, lA⟩ := cells2 ha3
      go_wp2_with fail
      go_roundw
      case rel =>
       exact ⟨djoin e e, djoin r e, n / 2, by omega, by go_num, dred_join _ _, dred_join _ _, (hW3.setCell _ _ (by rw [HA.out]; exact Nat.le_refl _)).setCell _ _ (by rw [HA.out]; exact Nat.le_refl _), set2 ha3, (set2_other (by omega)).trans hb3, (set2_other n4).trans hd3, E1⟩
      case measure => simp [intOf]; omega
    · have E1 := Lib.hid ((dstep_even e r he n (by omega)).trans HK.out)
      have ht : (((n : Int) % 2) == 1) = false := by simp; omega
      obtain ⟨cA0, cA1, fA, lA⟩ := cells2 har
      go_wp2_with fail
      refine (dig_JoinD e e _ he he).mono ?_
      rintro x w3 ⟨rfl, hf3⟩
      have ha3 := hf3.kept har
      have hb3 := hf3.kept hbr
      have hd3 := hf3.kept hDr
      have hW3 : Fr0 w w3 := hWr.trans hf3
      clear cA0 cA1 fA lA har hbr hDr hWr hf3
      clear wr
      obtain ⟨cA0, cA1, fA, lA⟩ := cells2 ha3
      go_wp2_with fail
      go_roundw
      case rel =>
       exact ⟨djoin e e, r, n / 2, by omega, by go_num, dred_join _ _, hr, (hW3.setCell _ _ (by rw [HA.out]; exact Nat.le_refl _)).setCell _ _ (by rw [HA.out]; exact Nat.le_refl _), set2 ha3, (set2_other (by omega)).trans hb3, (set2_other (by omega)).trans hd3, E1⟩
      case measure => simp [intOf]; omega
  · obtain rfl : n = 0 := by omega
    have e1 : r = R := (djoin_unit_right hr).symm.trans HK.out
    subst e1
    clear HK
    obtain ⟨cB0, cB1, fB, lB⟩ := cells2 hbr
    obtain ⟨cD0, cD1, fD, lD⟩ := cells2 hDr
    go_wp2_with fail
    exact bodyPost_ret (v := .agg #[.int .u64 r.1, .int .u64 r.2]) (by simp [results, Tryz.results117, go_sem, *]) rfl
     ⟨rfl, (hWr.setCell _ _ (by rw [HA.out]; dsimp only; omega)).setCell _ _ (by rw [HA.out]; dsimp only; omega)⟩
set_option maxRecDepth 100000 in
set_option maxHeartbeats 2000000 in
theorem wt_Repeat (t : Wt) (k : Nat) (w : World) (ht : WOk t) (hk : 1 ≤ k) (hl : 1 ≤ t.len) (hm : t.len * k ≤ 1152921504606846976) :
    Calls Tryz.prog 106 #[.agg #[.int .i64 t.len, .int .i64 t.lines, .int .i64 t.head, .int .i64 t.tail, .int .u64 t.val, .int .u64 t.scale], .int .i64 k] w
     fun e w' => e = .returned (.tuple #[.agg (t.rep k).vals.toArray, .nilIface]) ∧ Fr0 w w' := by
 have va := fun w => wt_Valid t w ht
 have q3 : 0 ≤ t.lines ∧ t.lines ≤ t.len := by
  have := ht.lines0
  by_cases e : t.lines = 0
  · have := ht.one e; omega
  · have := ht.more e; omega
 have hk2 : (k : Int) ≤ t.len * k := by
  have := Int.mul_le_mul_of_nonneg_right hl (show (0 : Int) ≤ k by omega)
  omega
 have cj := fun w => dig_Repeat (t.val, t.scale) k w ht.dred (by omega)
 have cm := fun w => len_Mul_ok t.len k w hl (by omega) hm ht.len1
 have q5 : 0 ≤ t.lines * (k : Int) := Int.mul_nonneg q3.1 (by omega)
 have q6 : t.lines * (k : Int) ≤ t.len * (k : Int) := Int.mul_le_mul_of_nonneg_right q3.2 (by omega)
 have hj : (t.rep k).vals.toArray = #[.int .i64 (t.len * k), .int .i64 (t.lines * k), .int .i64 (if t.lines = 0 then t.len * k else t.head), .int .i64 (if t.lines = 0 then t.len * k else t.tail), .int .u64 (dpow (t.val, t.scale) k).1, .int .u64 (dpow (t.val, t.scale) k).2] := by
  simp [Wt.rep, Wt.vals]
 rw [hj]
 generalize (dpow (t.val, t.scale) k).1 = z1 at *
 generalize (dpow (t.val, t.scale) k).2 = z2 at *
 obtain ⟨al, an, ah, at', av, as'⟩ := t
 simp only at *
 obtain ⟨hd, hhd⟩ : ∃ x, (if an = 0 then al * k else ah) = x := ⟨_, rfl⟩
 obtain ⟨tl, htl⟩ : ∃ x, (if an = 0 then al * k else at') = x := ⟨_, rfl⟩
 rw [hhd, htl]
 generalize al * (k : Int) = tot at *
 have VA := Lib.hid va
 have CJ := Lib.hid cj
 have CM := Lib.hid cm
 have HHD := Lib.hid hhd
 have HTL := Lib.hid htl
 clear va cj cm ht hj hhd htl
 go_enter Tryz.func106, Tryz.ntmps106
 go_wp2_with fail
 refine (VA.out _).mono ?_
 rintro e w1 ⟨rfl, hf1⟩
 have hs1 := hf1.size'
 simp at hs1
 have ha1 : w1.heap[w.heap.size]? = some (.cells #[.int .i64 al, .int .i64 an, .int .i64 ah, .int .i64 at', .int .u64 av, .int .u64 as'] 47 (0, 0)) := hf1.kept (alloc2_0 _ _ _)
 have hb1 : w1.heap[w.heap.size + 1]? = some (.cells #[.int .i64 0, .int .i64 0, .int .i64 0, .int .i64 0, .int .u64 0, .int .u64 0] 47 (0, 0)) := hf1.kept (alloc2_1 _ _ _)
 have hW1 : Fr0 w w1 := (((Fr0.refl w).alloc _).alloc _).trans hf1
 clear hf1 VA
 generalize hA : w.heap.size = A at *
 have HA := Lib.hid hA
 clear hA
 obtain ⟨cA0, cA1, cA2, cA3, cA4, cA5, fA, lA⟩ := cells6 ha1
 have lB := lt_of_block hb1
 have hk0 : (0 : Int) ≤ (k : Int) := by omega
 go_wp2_with fail
 refine (CM.out _).mono ?_
 rintro e w' ⟨rfl, rfl⟩
 have ht0 : (tot == 0) = false := by simp; omega
 go_upto_region 10 with fail
 have hneA : A ≠ w1.heap.size := by omega
 have hwr := IntWalk.i64_in (an * k) (by omega)
 go_cut [8] (fun s8 wx => ∃ D : Nat, s8 = .pointer (some ⟨D, 0, none⟩) ∧ A + 1 < D ∧ Fr0 w1 wx ∧ wx.heap[D]? = some (.cells #[.int .i64 tot, .int .i64 (an * k), .int .i64 ah, .int .i64 at', .int .u64 z1, .int .u64 z2] 47 (0, 0)))
 case first =>
  go_region_held3 (fun w' => w'.cell? ⟨A, 1, none⟩ = some (.int .i64 an) ∧ w'.cell? ⟨A, 2, none⟩ = some (.int .i64 ah) ∧ w'.cell? ⟨A, 3, none⟩ = some (.int .i64 at') ∧
      w'.cell? ⟨A, 4, none⟩ = some (.int .u64 av) ∧ w'.cell? ⟨A, 5, none⟩ = some (.int .u64 as'))
   (first | (go_keep; done) | ((try dsimp only); (repeat' apply And.intro); all_goals (first | (go_keep; done) | (go_split_ands; rw [hf3.cell _ _ (by simp; omega)]; assumption) | (go_split_ands; (simp only [cellA _ _ _ _ hA3] at *); assumption) | (go_split_ands; (simp only [cellS _ _ _ _ _ _ hneA]); assumption))))
   (first | (go_at_call 117; refine (CJ.out _).mono ?_; rintro e w3 ⟨rfl, hf3⟩; obtain ⟨hcc, hcf⟩ := hf3.cells; have hA3 : A < w3.heap.size := (by have hq := hf3.size'; (try simp at hq); omega)))
  · go_wp2_with fail
    go_meet
    have hq := hf3.size'
    simp at hq
    exact ⟨_, rfl, by omega, ((Fr0.refl w1).drew.trans hf3).alloc _, alloc_at _ _ _ rfl⟩
  · go_wp2_with fail
    go_meet
    have hq := hf3.size'
    simp at hq
    refine ⟨_, rfl, by omega, ?_, set6 (hf3.kept (alloc_at _ _ _ rfl))⟩
    refine (((((((Fr0.refl w1).drew.alloc _).trans hf3).setCell _ _ ?_).setCell _ _ ?_).setCell _ _ ?_).setCell _ _ ?_ |>.setCell _ _ ?_).setCell _ _ ?_ <;> exact Nat.le_refl _
 case rest =>
  obtain ⟨D, rfl, hD, hfx, hDx⟩ := hcut
  have hax := hfx.kept ha1
  have hbx := hfx.kept hb1
  have hWx : Fr0 w wc := hW1.trans hfx
  clear ha1 hb1 cA0 cA1 cA2 cA3 cA4 cA5 fA lA lB hwr hneA CJ CM hfx hW1 hs1
  clear w1
  obtain ⟨cA0, cA1, cA2, cA3, cA4, cA5, fA, lA⟩ := cells6 hax
  obtain ⟨cB0, cB1, cB2, cB3, cB4, cB5, fB, lB⟩ := cells6 hbx
  obtain ⟨cD0, cD1, cD2, cD3, cD4, cD5, fD, lD⟩ := cells6 hDx
  clear hax hbx hDx
  have n1 : ¬ A = D := by omega
  have n3 : ¬ A + 1 = D := by omega
  have n4 : ¬ D = A := by omega
  have n6 : ¬ D = A + 1 := by omega
  by_cases ea : an = 0
  · have e1 : tot = hd := (if_pos ea).symm.trans HHD.out
    have e2 : tot = tl := (if_pos ea).symm.trans HTL.out
    have ga : (an == 0) = true := by simpa using ea
    clear ea HHD HTL
    subst e1
    subst e2
    go_wp2_with fail
    exact bodyPost_ret (v := .tuple #[.agg #[.int .i64 tot, .int .i64 (an * k), .int .i64 tot, .int .i64 tot, .int .u64 z1, .int .u64 z2], .nilIface]) (by simp [results, Tryz.results106, go_sem, *]) rfl
     ⟨rfl, by
      (repeat' (first | (with_reducible exact hWx) | (with_reducible refine Fr0.setCell ?_ _ _ ?_))) <;> (rw [HA.out]; dsimp only; omega)⟩
  · have e1 : ah = hd := (if_neg ea).symm.trans HHD.out
    have e2 : at' = tl := (if_neg ea).symm.trans HTL.out
    have ga : (an == 0) = false := by simpa using ea
    clear ea HHD HTL
    subst e1
    subst e2
    go_wp2_with fail
    exact bodyPost_ret (v := .tuple #[.agg #[.int .i64 tot, .int .i64 (an * k), .int .i64 ah, .int .i64 at', .int .u64 z1, .int .u64 z2], .nilIface]) (by simp [results, Tryz.results106, go_sem, *]) rfl
     ⟨rfl, by
      (repeat' (first | (with_reducible exact hWx) | (with_reducible refine Fr0.setCell ?_ _ _ ?_))) <;> (rw [HA.out]; dsimp only; omega)⟩
end Go.Proofs.YtgldjpldldknoaaGreatDoor

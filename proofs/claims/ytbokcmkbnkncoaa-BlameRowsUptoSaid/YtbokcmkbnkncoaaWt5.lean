/- The walk of weight.Repeat. -/
import Derived.Test.YtbokcmkbnkncoaaWt4
set_option linter.unusedSimpArgs false
set_option linter.unusedVariables false
namespace Go.Proofs.Ytbokcmkbnkncoaa
open Go.RowKit

theorem cells6 {w : World} {b : Nat} {x0 x1 x2 x3 x4 x5 : Value} {t : TypeId} (h : w.heap[b]? = some (.cells #[x0, x1, x2, x3, x4, x5] t (0, 0))) :
    w.cell? ⟨b, 0, none⟩ = some x0 ∧ w.cell? ⟨b, 1, none⟩ = some x1 ∧ w.cell? ⟨b, 2, none⟩ = some x2 ∧ w.cell? ⟨b, 3, none⟩ = some x3 ∧ w.cell? ⟨b, 4, none⟩ = some x4 ∧ w.cell? ⟨b, 5, none⟩ = some x5 ∧
    (∀ o, w.frozen? ⟨b, o, none⟩ = false) ∧ b < w.heap.size :=
  ⟨by rw [cell_of_block h]; rfl, by rw [cell_of_block h]; rfl, by rw [cell_of_block h]; rfl, by rw [cell_of_block h]; rfl, by rw [cell_of_block h]; rfl, by rw [cell_of_block h]; rfl, fun o => frozen_of_block h o, lt_of_block h⟩

set_option maxRecDepth 100000 in
set_option maxHeartbeats 2000000 in
theorem wt_Repeat (t : Wt) (k : Nat) (w : World) (ht : WOk t) (hk : 1 ≤ k) (hl : 1 ≤ t.len) (hm : t.len * k ≤ 1152921504606846976) :
    Calls Try.prog 38 #[.agg #[.int .i64 t.len, .int .i64 t.lines, .int .i64 t.head, .int .i64 t.tail, .int .u64 t.val, .int .u64 t.scale], .int .i64 k] w
      fun e w' => e = .returned (.tuple #[.agg (t.rep k).vals.toArray, .nilIface]) ∧ Fr0 w w' := by
  have va := fun w => wt_Valid t w ht
  have q3 : 0 ≤ t.lines ∧ t.lines ≤ t.len := by
    have := ht.lines0
    by_cases e : t.lines = 0
    · have := ht.one e; omega
    · have := ht.more e; omega
  have hk2 : (k : Int) ≤ t.len * k := by
    have := Int.mul_le_mul_of_nonneg_right hl (show (0 : Int) ≤ k by omega)
    omega
  have cj := fun w => dig_Repeat (t.val, t.scale) k w ht.dred (by omega)
  have cm := fun w => len_Mul_ok t.len k w hl (by omega) hm ht.len1
  have q5 : 0 ≤ t.lines * (k : Int) := Int.mul_nonneg q3.1 (by omega)
  have q6 : t.lines * (k : Int) ≤ t.len * (k : Int) := Int.mul_le_mul_of_nonneg_right q3.2 (by omega)
  have hj : (t.rep k).vals.toArray = #[.int .i64 (t.len * k), .int .i64 (t.lines * k), .int .i64 (if t.lines = 0 then t.len * k else t.head), .int .i64 (if t.lines = 0 then t.len * k else t.tail), .int .u64 (dpow (t.val, t.scale) k).1, .int .u64 (dpow (t.val, t.scale) k).2] := by
    simp [Wt.rep, Wt.vals]
  rw [hj]
  generalize (dpow (t.val, t.scale) k).1 = z1 at *
  generalize (dpow (t.val, t.scale) k).2 = z2 at *
  obtain ⟨al, an, ah, at', av, as'⟩ := t
  simp only at *
  obtain ⟨hd, hhd⟩ : ∃ x, (if an = 0 then al * k else ah) = x := ⟨_, rfl⟩
  obtain ⟨tl, htl⟩ : ∃ x, (if an = 0 then al * k else at') = x := ⟨_, rfl⟩
  rw [hhd, htl]
  generalize al * (k : Int) = tot at *
  have VA := Lib.hid va
  have CJ := Lib.hid cj
  have CM := Lib.hid cm
  have HHD := Lib.hid hhd
  have HTL := Lib.hid htl
  clear va cj cm ht hj hhd htl
  go_enter Try.func38, Try.ntmps38
  go_wp2_with fail
  refine (VA.out _).mono ?_
  rintro e w1 ⟨rfl, hf1⟩
  have hs1 := hf1.size'
  simp at hs1
  have ha1 : w1.heap[w.heap.size]? = some (.cells #[.int .i64 al, .int .i64 an, .int .i64 ah, .int .i64 at', .int .u64 av, .int .u64 as'] 75 (0, 0)) := hf1.kept (alloc2_0 _ _ _)
  have hb1 : w1.heap[w.heap.size + 1]? = some (.cells #[.int .i64 0, .int .i64 0, .int .i64 0, .int .i64 0, .int .u64 0, .int .u64 0] 75 (0, 0)) := hf1.kept (alloc2_1 _ _ _)
  have hW1 : Fr0 w w1 := (((Fr0.refl w).alloc _).alloc _).trans hf1
  clear hf1 VA
  generalize hA : w.heap.size = A at *
  have HA := Lib.hid hA
  clear hA
  obtain ⟨cA0, cA1, cA2, cA3, cA4, cA5, fA, lA⟩ := cells6 ha1
  have lB := lt_of_block hb1
  have hk0 : (0 : Int) ≤ (k : Int) := by omega
  go_wp2_with fail
  refine (CM.out _).mono ?_
  rintro e w' ⟨rfl, rfl⟩
  have ht0 : (tot == 0) = false := by simp; omega
  go_upto_region 10 with fail
  have hneA : A ≠ w1.heap.size := by omega
  have hwr := IntWalk.i64_in (an * k) (by omega)
  go_cut [8] (fun s8 wx => ∃ D : Nat, s8 = .pointer (some ⟨D, 0, none⟩) ∧ A + 1 < D ∧ Fr0 w1 wx ∧ wx.heap[D]? = some (.cells #[.int .i64 tot, .int .i64 (an * k), .int .i64 ah, .int .i64 at', .int .u64 z1, .int .u64 z2] 75 (0, 0)))
  case first =>
    go_region_held3 (fun w' => w'.cell? ⟨A, 1, none⟩ = some (.int .i64 an) ∧ w'.cell? ⟨A, 2, none⟩ = some (.int .i64 ah) ∧ w'.cell? ⟨A, 3, none⟩ = some (.int .i64 at') ∧
        w'.cell? ⟨A, 4, none⟩ = some (.int .u64 av) ∧ w'.cell? ⟨A, 5, none⟩ = some (.int .u64 as'))
      (first | (go_keep; done) | ((try dsimp only); (repeat' apply And.intro); all_goals (first | (go_keep; done) | (go_split_ands; rw [hf3.cell _ _ (by simp; omega)]; assumption) | (go_split_ands; (simp only [cellA _ _ _ _ hA3] at *); assumption) | (go_split_ands; (simp only [cellS _ _ _ _ _ _ hneA]); assumption))))
      (first | (go_at_call 48; refine (CJ.out _).mono ?_; rintro e w3 ⟨rfl, hf3⟩; obtain ⟨hcc, hcf⟩ := hf3.cells; have hA3 : A < w3.heap.size := (by have hq := hf3.size'; (try simp at hq); omega)))
    · go_wp2_with fail
      go_meet
      have hq := hf3.size'
      simp at hq
      exact ⟨_, rfl, by omega, ((Fr0.refl w1).drew.trans hf3).alloc _, alloc_at _ _ _ rfl⟩
    · go_wp2_with fail
      go_meet
      have hq := hf3.size'
      simp at hq
      refine ⟨_, rfl, by omega, ?_, set6 (hf3.kept (alloc_at _ _ _ rfl))⟩
      refine (((((((Fr0.refl w1).drew.alloc _).trans hf3).setCell _ _ ?_).setCell _ _ ?_).setCell _ _ ?_).setCell _ _ ?_ |>.setCell _ _ ?_).setCell _ _ ?_ <;> exact Nat.le_refl _
  case rest =>
    obtain ⟨D, rfl, hD, hfx, hDx⟩ := hcut
    have hax := hfx.kept ha1
    have hbx := hfx.kept hb1
    have hWx : Fr0 w wc := hW1.trans hfx
    clear ha1 hb1 cA0 cA1 cA2 cA3 cA4 cA5 fA lA lB hwr hneA CJ CM hfx hW1 hs1
    clear w1
    obtain ⟨cA0, cA1, cA2, cA3, cA4, cA5, fA, lA⟩ := cells6 hax
    obtain ⟨cB0, cB1, cB2, cB3, cB4, cB5, fB, lB⟩ := cells6 hbx
    obtain ⟨cD0, cD1, cD2, cD3, cD4, cD5, fD, lD⟩ := cells6 hDx
    clear hax hbx hDx
    have n1 : ¬ A = D := by omega
    have n3 : ¬ A + 1 = D := by omega
    have n4 : ¬ D = A := by omega
    have n6 : ¬ D = A + 1 := by omega
    by_cases ea : an = 0
    · have e1 : tot = hd := (if_pos ea).symm.trans HHD.out
      have e2 : tot = tl := (if_pos ea).symm.trans HTL.out
      have ga : (an == 0) = true := by simpa using ea
      clear ea HHD HTL
      subst e1
      subst e2
      go_wp2_with fail
      exact bodyPost_ret (v := .tuple #[.agg #[.int .i64 tot, .int .i64 (an * k), .int .i64 tot, .int .i64 tot, .int .u64 z1, .int .u64 z2], .nilIface]) (by simp [results, Try.results38, go_sem, *]) rfl
        ⟨rfl, by
          (repeat' (first | (with_reducible exact hWx) | (with_reducible refine Fr0.setCell ?_ _ _ ?_))) <;> (rw [HA.out]; dsimp only; omega)⟩
    · have e1 : ah = hd := (if_neg ea).symm.trans HHD.out
      have e2 : at' = tl := (if_neg ea).symm.trans HTL.out
      have ga : (an == 0) = false := by simpa using ea
      clear ea HHD HTL
      subst e1
      subst e2
      go_wp2_with fail
      exact bodyPost_ret (v := .tuple #[.agg #[.int .i64 tot, .int .i64 (an * k), .int .i64 ah, .int .i64 at', .int .u64 z1, .int .u64 z2], .nilIface]) (by simp [results, Try.results38, go_sem, *]) rfl
        ⟨rfl, by
          (repeat' (first | (with_reducible exact hWx) | (with_reducible refine Fr0.setCell ?_ _ _ ?_))) <;> (rw [HA.out]; dsimp only; omega)⟩

end Go.Proofs.Ytbokcmkbnkncoaa

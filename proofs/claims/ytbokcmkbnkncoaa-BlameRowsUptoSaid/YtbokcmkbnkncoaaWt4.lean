/- The walks of digest.Repeat and weight.Repeat. -/
import Derived.Test.YtbokcmkbnkncoaaWt3
set_option linter.unusedSimpArgs false
set_option linter.unusedVariables false
namespace Go.Proofs.Ytbokcmkbnkncoaa
open Go.RowKit

theorem set2 {w : World} {b : Nat} {t : TypeId} {f : Nat × Nat} {a0 a1 v0 v1 : Value} (h : w.heap[b]? = some (.cells #[a0, a1] t f)) :
    ((w.setCell ⟨b, 0, none⟩ v0).setCell ⟨b, 1, none⟩ v1).heap[b]? = some (.cells #[v0, v1] t f) := setCell_block (setCell_block h 0 v0) 1 v1

theorem set2_other {w : World} {b c : Nat} {v0 v1 : Value} (h : c ≠ b) : ((w.setCell ⟨b, 0, none⟩ v0).setCell ⟨b, 1, none⟩ v1).heap[c]? = w.heap[c]? := by
  rw [setCell_other _ _ h, setCell_other _ _ h]

theorem cells2 {w : World} {b : Nat} {x y : Value} {t : TypeId} (h : w.heap[b]? = some (.cells #[x, y] t (0, 0))) :
    w.cell? ⟨b, 0, none⟩ = some x ∧ w.cell? ⟨b, 1, none⟩ = some y ∧ (∀ o, w.frozen? ⟨b, o, none⟩ = false) ∧ b < w.heap.size :=
  ⟨by rw [cell_of_block h]; rfl, by rw [cell_of_block h]; rfl, fun o => frozen_of_block h o, lt_of_block h⟩

theorem dig_JoinD (d e : Int × Int) (w : World) (hd : dred d) (he : dred e) :
    Calls Try.prog 56 #[.agg #[.int .u64 d.1, .int .u64 d.2], .agg #[.int .u64 e.1, .int .u64 e.2]] w fun x w' => x = .returned (.agg #[.int .u64 (djoin d e).1, .int .u64 (djoin d e).2]) ∧ Fr0 w w' := by
  obtain ⟨⟨a1, a2⟩, a3, a4⟩ := hd
  obtain ⟨⟨b1, b2⟩, b3, b4⟩ := he
  exact dig_Join d.1 d.2 e.1 e.2 w a1 (by omega) a3 (by omega) b1 (by omega) b3 (by omega)

theorem dstep_odd (e r : Int × Int) (he : dred e) (n : Nat) (h : n % 2 = 1) : djoin (djoin r e) (dpow (djoin e e) (n / 2)) = djoin r (dpow e n) := by
  rw [dpow_double e he, djoin_assoc]
  congr 1
  have h1 : dpow e 1 = e := djoin_unit_left he
  have h2 := dpow_add e he 1 (2 * (n / 2))
  rw [h1] at h2
  rw [← h2]
  congr 1
  omega

theorem dstep_even (e r : Int × Int) (he : dred e) (n : Nat) (h : n % 2 = 0) : djoin r (dpow (djoin e e) (n / 2)) = djoin r (dpow e n) := by
  rw [dpow_double e he]
  congr 2
  omega

set_option maxRecDepth 100000 in
set_option maxHeartbeats 2000000 in
theorem dig_Repeat (d : Int × Int) (k : Nat) (w : World) (hd : dred d) (hk : k < 9223372036854775808) :
    Calls Try.prog 48 #[.agg #[.int .u64 d.1, .int .u64 d.2], .int .i64 k] w fun x w' => x = .returned (.agg #[.int .u64 (dpow d k).1, .int .u64 (dpow d k).2]) ∧ Fr0 w w' := by
  have h0 : djoin (0, 1) (dpow d k) = dpow d k := djoin_unit_left (dred_pow d k)
  generalize hR : dpow d k = R at *
  rw [← hR] at h0
  rw [hR] at h0
  have h1 : djoin (0, 1) (dpow d k) = R := by rw [hR]; exact h0
  have H1 := Lib.hid h1
  clear h0 hR h1
  go_enter Try.func48, Try.ntmps48
  go_wp2_with fail
  refine (dig_Unit _).mono ?_
  rintro e w1 ⟨rfl, hf1⟩
  have hs1 := hf1.size'
  simp at hs1
  have ha1 : w1.heap[w.heap.size]? = some (.cells #[.int .u64 d.1, .int .u64 d.2] 73 (0, 0)) := hf1.kept (alloc2_0 _ _ _)
  have hb1 : w1.heap[w.heap.size + 1]? = some (.cells #[.int .u64 0, .int .u64 0] 73 (0, 0)) := hf1.kept (alloc2_1 _ _ _)
  have hW1 : Fr0 w w1 := (((Fr0.refl w).alloc _).alloc _).trans hf1
  clear hf1
  generalize hA : w.heap.size = A at *
  have HA := Lib.hid hA
  clear hA
  have HA1 := Lib.hid ha1
  have HB1 := Lib.hid hb1
  clear ha1 hb1
  go_wp2_with fail
  generalize hD : w1.heap.size = D at *
  have HD := Lib.hid hD
  clear hD
  go_loopw [1] (fun v wr => ∃ (e r : Int × Int) (n : Nat), n ≤ k ∧ v = .int .i64 n ∧ dred e ∧ dred r ∧ Fr0 w wr ∧ wr.heap[A]? = some (.cells #[.int .u64 e.1, .int .u64 e.2] 73 (0, 0)) ∧ wr.heap[A + 1]? = some (.cells #[.int .u64 0, .int .u64 0] 73 (0, 0)) ∧
      wr.heap[D]? = some (.cells #[.int .u64 r.1, .int .u64 r.2] 73 (0, 0)) ∧ Hid (djoin r (dpow e n) = R)) (fun v _ => (intOf v).toNat)
  case atStart =>
    exact ⟨d, (0, 1), k, Nat.le_refl _, rfl, hd, ⟨⟨by decide, by decide⟩, by decide, by decide⟩, hW1.alloc _, (alloc_lt _ _ _ (by rw [HD.out]; omega)).trans HA1.out, (alloc_lt _ _ _ (by rw [HD.out]; omega)).trans HB1.out, alloc_at _ _ _ HD.out.symm, H1⟩
  case round =>
    obtain ⟨e, r, n, hn, rfl, he, hr, hWr, har, hbr, hDr, HK⟩ := hrel
    clear HA1 HB1 H1 hW1
    by_cases hn0 : 0 < n
    · by_cases ho : n % 2 = 1
      · have E1 := Lib.hid ((dstep_odd e r he n ho).trans HK.out)
        have ht : (((n : Int) % 2) == 1) = true := by simp; omega
        obtain ⟨cA0, cA1, fA, lA⟩ := cells2 har
        obtain ⟨cD0, cD1, fD, lD⟩ := cells2 hDr
        go_wp2_with fail
        refine (dig_JoinD r e _ hr he).mono ?_
        rintro x w2 ⟨rfl, hf2⟩
        have ha2 := hf2.kept har
        have hb2 := hf2.kept hbr
        have hd2 := hf2.kept hDr
        have hW2 := hWr.trans hf2
        clear cA0 cA1 fA lA cD0 cD1 fD lD har hbr hDr hWr hf2
        clear wr
        obtain ⟨cA0, cA1, fA, lA⟩ := cells2 ha2
        obtain ⟨cD0, cD1, fD, lD⟩ := cells2 hd2
        have n1 : ¬ A = D := by omega
        have n4 : ¬ D = A := by omega
        go_wp2_with fail
        refine (dig_JoinD e e _ he he).mono ?_
        rintro x w3 ⟨rfl, hf3⟩
        have ha3 := hf3.kept (b := A) ((set2_other n1).trans ha2)
        have hb3 := hf3.kept (b := A + 1) ((set2_other (by omega)).trans hb2)
        have hd3 := hf3.kept (b := D) (set2 hd2)
        have hW3 : Fr0 w w3 := ((hW2.setCell _ _ (by rw [HA.out]; dsimp only; omega)).setCell _ _ (by rw [HA.out]; dsimp only; omega)).trans hf3
        clear cA0 cA1 fA lA cD0 cD1 fD lD ha2 hb2 hd2 hW2 hf3
        clear w2
        obtain ⟨cA0, cA1, fA, lA⟩ := cells2 ha3
        go_wp2_with fail
        go_roundw
        case rel =>
          exact ⟨djoin e e, djoin r e, n / 2, by omega, by go_num, dred_join _ _, dred_join _ _, (hW3.setCell _ _ (by rw [HA.out]; exact Nat.le_refl _)).setCell _ _ (by rw [HA.out]; exact Nat.le_refl _), set2 ha3, (set2_other (by omega)).trans hb3, (set2_other n4).trans hd3, E1⟩
        case measure => simp [intOf]; omega
      · have E1 := Lib.hid ((dstep_even e r he n (by omega)).trans HK.out)
        have ht : (((n : Int) % 2) == 1) = false := by simp; omega
        obtain ⟨cA0, cA1, fA, lA⟩ := cells2 har
        go_wp2_with fail
        refine (dig_JoinD e e _ he he).mono ?_
        rintro x w3 ⟨rfl, hf3⟩
        have ha3 := hf3.kept har
        have hb3 := hf3.kept hbr
        have hd3 := hf3.kept hDr
        have hW3 : Fr0 w w3 := hWr.trans hf3
        clear cA0 cA1 fA lA har hbr hDr hWr hf3
        clear wr
        obtain ⟨cA0, cA1, fA, lA⟩ := cells2 ha3
        go_wp2_with fail
        go_roundw
        case rel =>
          exact ⟨djoin e e, r, n / 2, by omega, by go_num, dred_join _ _, hr, (hW3.setCell _ _ (by rw [HA.out]; exact Nat.le_refl _)).setCell _ _ (by rw [HA.out]; exact Nat.le_refl _), set2 ha3, (set2_other (by omega)).trans hb3, (set2_other (by omega)).trans hd3, E1⟩
        case measure => simp [intOf]; omega
    · obtain rfl : n = 0 := by omega
      have e1 : r = R := (djoin_unit_right hr).symm.trans HK.out
      subst e1
      clear HK
      obtain ⟨cB0, cB1, fB, lB⟩ := cells2 hbr
      obtain ⟨cD0, cD1, fD, lD⟩ := cells2 hDr
      go_wp2_with fail
      exact bodyPost_ret (v := .agg #[.int .u64 r.1, .int .u64 r.2]) (by simp [results, Try.results48, go_sem, *]) rfl
        ⟨rfl, (hWr.setCell _ _ (by rw [HA.out]; dsimp only; omega)).setCell _ _ (by rw [HA.out]; dsimp only; omega)⟩

end Go.Proofs.Ytbokcmkbnkncoaa

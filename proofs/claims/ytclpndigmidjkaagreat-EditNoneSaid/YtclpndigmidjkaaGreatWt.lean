/- The walks of digest.Repeat and of package weight. -/
import Derived.Test.YtclpndigmidjkaaGreatDig
import Derived.Deep.RegionHeld3
set_option linter.unusedSimpArgs false
set_option linter.unusedVariables false
namespace Go.Proofs.YtclpndigmidjkaaGreat
open Go.RowKit

theorem region_still {P : Program} {id : Nat} {Q : Exit → Act → World → Prop} {a : Act} {w : World} {l : List Oper} (hm : P.follows .mixedOrders = true) (hB : Region.lexB .any l.toArray = true)
    (h : wpStill P l.toArray w.drew (fun a' => Q .normal a' w.drew) l a) : (Code.region id l.toArray true).wp P Q a w := wp_region_still_lit hm hB h

theorem wrap_u64_id (x : Int) (h0 : 0 ≤ x) (h1 : x < 18446744073709551616) : IntKind.u64.wrap x = x := by rw [IntKind.wrap_u64]; omega

set_option maxHeartbeats 400000 in
theorem wt_Unit (w : World) :
    Calls Tryz.prog 120 #[] w fun e w' => e = .returned (.agg #[.int .i64 0, .int .i64 0, .int .i64 0, .int .i64 0, .int .u64 0, .int .u64 1]) ∧ Fr0 w w' := by
  go_enter Tryz.func120, Tryz.ntmps120
  go_wp2_with fail
  refine (dig_Unit _).mono ?_
  rintro e w1 ⟨rfl, hf⟩
  obtain ⟨hc, hz⟩ := hf.cells
  have hs := hf.size
  simp at hs
  go_wp2_with fail
  exact bodyPost_ret (v := .agg #[.int .i64 0, .int .i64 0, .int .i64 0, .int .i64 0, .int .u64 0, .int .u64 1]) (by simp [results, Tryz.results120, go_sem, hc, hz]) rfl
    ⟨rfl, by (repeat' (first | (with_reducible exact Fr0.refl _) | (with_reducible refine Fr0.setCell ?_ _ _ ?_) | (with_reducible refine Fr0.alloc ?_ _) | (with_reducible refine Fr0.drew ?_) | (with_reducible refine Fr0.trans ?_ hf))) <;> first | omega | (dsimp only; omega) | (simp; done) | (simp; omega)⟩

set_option maxHeartbeats 400000 in
theorem wt_Letter (b : Int) (w : World) (h0 : 0 ≤ b) (h1 : b < 256) :
    Calls Tryz.prog 93 #[.int .u8 b] w fun e w' => e = .returned (.agg (Wt.letter b).vals.toArray) ∧ Fr0 w w' := by
  by_cases hb : b = 10
  · subst hb
    go_enter Tryz.func93, Tryz.ntmps93
    go_wp2_with fail
    refine (dig_Letter _ _ (by omega) (by omega)).mono ?_
    rintro e w1 ⟨rfl, hf⟩
    obtain ⟨hc, hz⟩ := hf.cells
    have hs := hf.size
    simp at hs
    go_wp2_with fail
    exact bodyPost_ret (v := .agg (Wt.letter 10).vals.toArray) (by simp [results, Tryz.results93, go_sem, hc, hz, Wt.letter, Wt.vals]) rfl
      ⟨rfl, by (repeat' (first | (with_reducible exact Fr0.refl _) | (with_reducible refine Fr0.setCell ?_ _ _ ?_) | (with_reducible refine Fr0.alloc ?_ _) | (with_reducible refine Fr0.drew ?_) | (with_reducible refine Fr0.trans ?_ hf))) <;> first | omega | (dsimp only; omega) | (simp; done) | (simp; omega)⟩
  · have hb' : (b == 10) = false := by simpa using hb
    have HB := Lib.hid hb
    clear hb
    go_enter Tryz.func93, Tryz.ntmps93
    go_wp2_with fail
    refine (dig_Letter _ _ (by omega) (by omega)).mono ?_
    rintro e w1 ⟨rfl, hf⟩
    obtain ⟨hc, hz⟩ := hf.cells
    have hs := hf.size
    simp at hs
    go_wp2_with fail
    exact bodyPost_ret (v := .agg (Wt.letter b).vals.toArray) (by simp [results, Tryz.results93, go_sem, hc, hz, Wt.letter, Wt.vals, HB.out]) rfl
      ⟨rfl, by (repeat' (first | (with_reducible exact Fr0.refl _) | (with_reducible refine Fr0.setCell ?_ _ _ ?_) | (with_reducible refine Fr0.alloc ?_ _) | (with_reducible refine Fr0.drew ?_) | (with_reducible refine Fr0.trans ?_ hf))) <;> first | omega | (dsimp only; omega) | (simp; done) | (simp; omega)⟩

set_option maxRecDepth 100000 in
set_option maxHeartbeats 1000000 in
theorem wt_Valid_one (l v s : Int) (w : World) (h0 : 0 ≤ l) (h1 : l ≤ 1152921504606846976) (hv0 : 0 ≤ v) (hv1 : v < 2305843009213693951) (hl : l = 0 → v = 0) (hs : s = 1103515245 ^ l.toNat % PP) :
    Calls Tryz.prog 121 #[.agg #[.int .i64 l, .int .i64 0, .int .i64 l, .int .i64 l, .int .u64 v, .int .u64 s]] w fun e w' => e = .returned (.bool true) ∧ Fr0 w w' := by
  have cp := fun w => calls_sym (mod_PowI 1103515245 l (by omega) (by omega) h0 (by omega) w)
  rw [← hs] at cp
  have CP := Lib.hid cp
  clear cp hs
  by_cases hz : l = 0
  · obtain rfl := hl hz
    subst hz
    go_enter Tryz.func121, Tryz.ntmps121
    go_wp2_with (go_at_call 60; refine (len_Valid_yes _ _ (by omega) (by omega)).mono ?_; rintro e w' ⟨rfl, rfl⟩)
    refine region_still (by kernel_rfl) (by kernel_rfl) ?_
    iterate 6 still_step
    still_call (CP.out _)
    iterate 2 still_step
    refine wpStill_nil ?_
    go_wp2_with fail
    go_ret
    exact ⟨by simp, by repeat (first | exact Fr0.refl _ | refine Fr0.alloc ?_ _ | refine Fr0.drew ?_)⟩
  · have hz' : (l == 0) = false := by simpa using hz
    clear hl hz
    go_enter Tryz.func121, Tryz.ntmps121
    go_wp2_with (go_at_call 60; refine (len_Valid_yes _ _ (by omega) (by omega)).mono ?_; rintro e w' ⟨rfl, rfl⟩)
    have hwr := wrap_u64_id l h0 (by omega)
    refine region_still (by kernel_rfl) (by kernel_rfl) ?_
    iterate 6 still_step
    still_call (CP.out _)
    iterate 2 still_step
    refine wpStill_nil ?_
    clear hwr
    go_wp2_with fail
    go_ret
    exact ⟨by simp, by repeat (first | exact Fr0.refl _ | refine Fr0.alloc ?_ _ | refine Fr0.drew ?_)⟩

end Go.Proofs.YtclpndigmidjkaaGreat

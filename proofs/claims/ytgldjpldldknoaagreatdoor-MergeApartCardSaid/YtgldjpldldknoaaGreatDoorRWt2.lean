/- The walks of weight.Valid, weight.Join. -/
import Derived.Test.YtgldjpldldknoaaGreatDoorRDig
set_option linter.unusedSimpArgs false
set_option linter.unusedVariables false
namespace Go.Proofs.YtgldjpldldknoaaGreatDoor
open Go.RowKit
set_option maxRecDepth 100000 in
set_option maxHeartbeats 1000000 in
theorem wt_Valid_more (l n h t v s : Int) (w : World) (h0 : 0 ≤ l) (h1 : l ≤ 1152921504606846976) (hv0 : 0 ≤ v) (hv1 : v < 2305843009213693951)
    (hn : 1 ≤ n) (hh : 0 ≤ h) (ht : 0 ≤ t) (hb : n ≤ l - h - t) (hone : n = 1 → l - h - t = 1) (hs : s = 1103515245 ^ l.toNat % PP) :
    Calls Tryz.prog 72 #[.agg #[.int .i64 l, .int .i64 n, .int .i64 h, .int .i64 t, .int .u64 v, .int .u64 s]] w fun e w' => e = .returned (.bool true) ∧ Fr0 w w' := by
 have cp := fun w => calls_sym (mod_PowI 1103515245 l (by omega) (by omega) h0 (by omega) w)
 rw [← hs] at cp
 have CP := Lib.hid cp
 clear cp hs
 have hz' : (l == 0) = false := by simp; omega
 have hnz : (n == 0) = false := by simp; omega
 by_cases h1n : n = 1
 · have hone' := hone h1n
   have hn1 : (n == 1) = true := by simpa using h1n
   have hb1 : (l - h - t != 1) = false := by simp [hone']
   clear hone h1n hone'
   go_enter Tryz.func72, Tryz.ntmps72
   go_wp2_with (go_at_call 44; refine (len_Valid_yes _ _ (by omega) (by omega)).mono ?_; rintro e w' ⟨rfl, rfl⟩)
   have hwr := wrap_u64_id l h0 (by omega)
   refine region_still (by kernel_rfl) (by kernel_rfl) ?_
   iterate 6 still_step
   still_call (CP.out _)
   iterate 2 still_step
   refine wpStill_nil ?_
   clear hwr
   go_wp2_with fail
   go_ret
   exact ⟨by simp, by repeat (first | exact Fr0.refl _ | refine Fr0.alloc ?_ _ | refine Fr0.drew ?_)⟩
 · have hn1 : (n == 1) = false := by simpa using h1n
   clear hone h1n
   go_enter Tryz.func72, Tryz.ntmps72
   go_wp2_with (go_at_call 44; refine (len_Valid_yes _ _ (by omega) (by omega)).mono ?_; rintro e w' ⟨rfl, rfl⟩)
   have hwr := wrap_u64_id l h0 (by omega)
   refine region_still (by kernel_rfl) (by kernel_rfl) ?_
   iterate 6 still_step
   still_call (CP.out _)
   iterate 2 still_step
   refine wpStill_nil ?_
   clear hwr
   go_wp2_with fail
   go_ret
   exact ⟨by simp, by repeat (first | exact Fr0.refl _ | refine Fr0.alloc ?_ _ | refine Fr0.drew ?_)⟩
theorem wt_Valid (t : Wt) (w : World) (h : WOk t) :
    Calls Tryz.prog 72 #[.agg #[.int .i64 t.len, .int .i64 t.lines, .int .i64 t.head, .int .i64 t.tail, .int .u64 t.val, .int .u64 t.scale]] w fun e w' => e = .returned (.bool true) ∧ Fr0 w w' := by
 by_cases hl : t.lines = 0
 · obtain ⟨e1, e2⟩ := h.one hl
   rw [hl, e1, e2]
   exact wt_Valid_one _ _ _ w h.len0 h.len1 h.val0 h.val1 h.empty h.scale
 · obtain ⟨e1, e2, e3, e4⟩ := h.more hl
   have := h.lines0
   exact wt_Valid_more _ _ _ _ _ _ w h.len0 h.len1 h.val0 h.val1 (by omega) e1 e2 e3 e4 h.scale
end Go.Proofs.YtgldjpldldknoaaGreatDoor

/- The walks of find, add, New. -/
import Derived.Test.YtclpndigmidjkaaGreatSt2
set_option linter.unusedSimpArgs false
set_option linter.unusedVariables false
namespace Go.Proofs.YtclpndigmidjkaaGreat
open Go.RowKit

set_option maxRecDepth 100000 in
set_option maxHeartbeats 400000 in
theorem st_find_some {w : World} {p mb : Nat} {most : Int} {sv : Value} {L : List Ent} (hS : St w p mb most sv L) (r : Rl) (j : Nat) (hj : ruleIdx r L = some j) :
    Calls Tryz.prog 91 #[.pointer (some ⟨p, 0, none⟩), .agg #[.int .i64 r.kind, .int .u8 r.letter, .int .i64 r.left, .int .i64 r.right, .int .i64 r.times]] w fun e w' => e = .returned (.tuple #[.int .i64 ((j : Int) + 1), .nilIface]) ∧ Fr0 w w' := by
  obtain ⟨c0, c1, c2, f, l⟩ := cells3 hS.ptr
  have lm := lt_of_block hS.mp
  have hl : (Instr.lookup 118 (.map (some mb)) (.agg #[.int .i64 r.kind, .int .u8 r.letter, .int .i64 r.left, .int .i64 r.right, .int .i64 r.times]) true).run Tryz.prog (w.alloc (.cells #[.int .i64 r.kind, .int .u8 r.letter, .int .i64 r.left, .int .i64 r.right, .int .i64 r.times] 132 (0, 0))).drew = .ok (.tuple #[.int .i64 ((j : Int) + 1), .bool true]) (w.alloc (.cells #[.int .i64 r.kind, .int .u8 r.letter, .int .i64 r.left, .int .i64 r.right, .int .i64 r.times] 132 (0, 0))).drew :=
    run_lookup_some r j _ ((alloc_lt _ _ _ lm).trans hS.mp) hj
  clear hj hS
  go_enter Tryz.func91, Tryz.ntmps91
  go_wp2_with fail
  refine region_still (by kernel_rfl) (by kernel_rfl) ?_
  iterate 11 still_step
  refine wpStill_nil ?_
  clear hl
  go_wp2_with fail
  go_ret2
  exact ⟨rfl, ((Fr0.refl w).alloc _).drew⟩

set_option maxRecDepth 100000 in
set_option maxHeartbeats 400000 in
theorem st_find_none {w : World} {p mb : Nat} {most : Int} {sv : Value} {L : List Ent} (hS : St w p mb most sv L) (r : Rl) (hj : ruleIdx r L = none) (hr : (L.length : Int) < most) :
    Calls Tryz.prog 91 #[.pointer (some ⟨p, 0, none⟩), .agg #[.int .i64 r.kind, .int .u8 r.letter, .int .i64 r.left, .int .i64 r.right, .int .i64 r.times]] w fun e w' => e = .returned (.tuple #[.int .i64 0, .nilIface]) ∧ Fr0 w w' := by
  obtain ⟨c0, c1, c2, f, l⟩ := cells3 hS.ptr
  have lm := lt_of_block hS.mp
  obtain ⟨a, cap, rfl⟩ := hS.form
  have hl : (Instr.lookup 118 (.map (some mb)) (.agg #[.int .i64 r.kind, .int .u8 r.letter, .int .i64 r.left, .int .i64 r.right, .int .i64 r.times]) true).run Tryz.prog (w.alloc (.cells #[.int .i64 r.kind, .int .u8 r.letter, .int .i64 r.left, .int .i64 r.right, .int .i64 r.times] 132 (0, 0))).drew = .ok (.tuple #[.int .i64 0, .bool false]) (w.alloc (.cells #[.int .i64 r.kind, .int .u8 r.letter, .int .i64 r.left, .int .i64 r.right, .int .i64 r.times] 132 (0, 0))).drew :=
    run_lookup_none r _ ((alloc_lt _ _ _ lm).trans hS.mp) hj
  clear hj hS
  go_enter Tryz.func91, Tryz.ntmps91
  go_wp2_with fail
  refine region_still (by kernel_rfl) (by kernel_rfl) ?_
  iterate 11 still_step
  refine wpStill_nil ?_
  clear hl
  go_wp2_with fail
  refine region_still (by kernel_rfl) (by kernel_rfl) ?_
  iterate 10 still_step
  refine wpStill_nil ?_
  go_wp2_with fail
  go_ret2
  exact ⟨rfl, ((Fr0.refl w).alloc _).drew.drew⟩

set_option maxRecDepth 100000 in
set_option maxHeartbeats 400000 in
theorem st_find_full {w : World} {p mb : Nat} {most : Int} {sv : Value} {L : List Ent} (hS : St w p mb most sv L) (r : Rl) (hj : ruleIdx r L = none) (hr : most ≤ (L.length : Int)) :
    Calls Tryz.prog 91 #[.pointer (some ⟨p, 0, none⟩), .agg #[.int .i64 r.kind, .int .u8 r.letter, .int .i64 r.left, .int .i64 r.right, .int .i64 r.times]] w fun e w' => e = .returned (.tuple #[.int .i64 0, .iface 52 (.int .i64 3)]) ∧ Fr0 w w' := by
  obtain ⟨c0, c1, c2, f, l⟩ := cells3 hS.ptr
  have lm := lt_of_block hS.mp
  obtain ⟨a, cap, rfl⟩ := hS.form
  have hl : (Instr.lookup 118 (.map (some mb)) (.agg #[.int .i64 r.kind, .int .u8 r.letter, .int .i64 r.left, .int .i64 r.right, .int .i64 r.times]) true).run Tryz.prog (w.alloc (.cells #[.int .i64 r.kind, .int .u8 r.letter, .int .i64 r.left, .int .i64 r.right, .int .i64 r.times] 132 (0, 0))).drew = .ok (.tuple #[.int .i64 0, .bool false]) (w.alloc (.cells #[.int .i64 r.kind, .int .u8 r.letter, .int .i64 r.left, .int .i64 r.right, .int .i64 r.times] 132 (0, 0))).drew :=
    run_lookup_none r _ ((alloc_lt _ _ _ lm).trans hS.mp) hj
  clear hj hS
  go_enter Tryz.func91, Tryz.ntmps91
  go_wp2_with fail
  refine region_still (by kernel_rfl) (by kernel_rfl) ?_
  iterate 11 still_step
  refine wpStill_nil ?_
  clear hl
  go_wp2_with fail
  refine region_still (by kernel_rfl) (by kernel_rfl) ?_
  iterate 10 still_step
  refine wpStill_nil ?_
  go_wp2_with fail
  go_ret2
  exact ⟨rfl, ((Fr0.refl w).alloc _).drew.drew⟩

set_option maxRecDepth 100000 in
set_option maxHeartbeats 400000 in
theorem st_New (w : World) :
    Calls Tryz.prog 10 #[.int .i64 1048576] w fun e w' => e = .returned (.pointer (some ⟨w.heap.size + 1, 0, none⟩)) ∧ Fr0 w w' ∧ St w' (w.heap.size + 1) w.heap.size 1048576 (.slice none 0 0) [] ∧ w'.heap.size = w.heap.size + 2 := by
  have hmm := @run_makeMap Tryz.prog
  go_enter Tryz.func10, Tryz.ntmps10
  go_wp2_with fail
  refine (len_Clip _ _ _ _).mono ?_
  rintro e w' ⟨rfl, rfl⟩
  go_wp2_with fail
  go_ret
  refine ⟨rfl, ((Fr0.refl w).alloc _).alloc _, ⟨alloc2_1 _ _ _, alloc2_0 _ _ _, World.ownsRow_nil _ _ _ _, by simp⟩, by simp⟩

end Go.Proofs.YtclpndigmidjkaaGreat

/- The walks of Weight, Depth, Even, Len, and of avl.Balanced, patch.unknown, patch.size. -/
import Derived.Test.YtodmpcnpedpheaaDoorQWt4
set_option linter.unusedSimpArgs false
set_option linter.unusedVariables false
namespace Go.Proofs.YtodmpcnpedpheaaDoor
open Go.RowKit

@[go_sem] theorem fld_ent0 (c0 c1 c2 c3 c4 c5 c6 c7 c8 c9 c10 c11 c12 : Value) (w : World) : (Instr.field 114 (.agg #[c0, c1, c2, c3, c4, c5, c6, c7, c8, c9, c10, c11, c12]) 0).run Tryd.prog w = .ok (.agg #[c0, c1, c2, c3, c4]) w := by kernel_rfl
@[go_sem] theorem fld_ent1 (c0 c1 c2 c3 c4 c5 c6 c7 c8 c9 c10 c11 c12 : Value) (w : World) : (Instr.field 114 (.agg #[c0, c1, c2, c3, c4, c5, c6, c7, c8, c9, c10, c11, c12]) 1).run Tryd.prog w = .ok (.agg #[c5, c6, c7, c8, c9, c10]) w := by kernel_rfl
@[go_sem] theorem fld_ent2 (c0 c1 c2 c3 c4 c5 c6 c7 c8 c9 c10 c11 c12 : Value) (w : World) : (Instr.field 114 (.agg #[c0, c1, c2, c3, c4, c5, c6, c7, c8, c9, c10, c11, c12]) 2).run Tryd.prog w = .ok c11 w := by kernel_rfl
@[go_sem] theorem fld_ent3 (c0 c1 c2 c3 c4 c5 c6 c7 c8 c9 c10 c11 c12 : Value) (w : World) : (Instr.field 114 (.agg #[c0, c1, c2, c3, c4, c5, c6, c7, c8, c9, c10, c11, c12]) 3).run Tryd.prog w = .ok c12 w := by kernel_rfl
@[go_sem] theorem fld_wt0 (c5 c6 c7 c8 c9 c10 : Value) (w : World) : (Instr.field 83 (.agg #[c5, c6, c7, c8, c9, c10]) 0).run Tryd.prog w = .ok c5 w := by kernel_rfl

set_option maxRecDepth 100000 in
set_option maxHeartbeats 400000 in
theorem st_Weight {w : World} {p mb : Nat} {most : Int} {sv : Value} {L : List Ent} (hS : St w p mb most sv L) (id : Int) (h : isKnown L id) :
    Calls Tryd.prog 28 #[.pointer (some ⟨p, 0, none⟩), .int .i64 id] w fun e w' => e = .returned (.tuple #[.agg #[.int .i64 (entAt L id).wt.len, .int .i64 (entAt L id).wt.lines, .int .i64 (entAt L id).wt.head, .int .i64 (entAt L id).wt.tail, .int .u64 (entAt L id).wt.val, .int .u64 (entAt L id).wt.scale], .nilIface]) ∧ Fr0 w w' := by
  have c1 := fun w' (hf : Fr0 w w') => st_known_yes (hS.kept0 hf) id h
  have c2 := fun w' (hf : Fr0 w w') => st_at (hS.kept0 hf) id h
  have C1 := Lib.hid c1
  have C2 := Lib.hid c2
  clear c1 c2 hS
  generalize entAt L id = x at *
  go_enter Tryd.func28, Tryd.ntmps28
  go_wp2_with fail
  refine (C1.out _ ((Fr0.refl w).alloc _)).mono ?_
  rintro e w' ⟨rfl, rfl⟩
  go_wp2_with fail
  refine (C2.out _ ((Fr0.refl w).alloc _)).mono ?_
  rintro e w1 ⟨rfl, hf⟩
  obtain ⟨hc, hz⟩ := hf.cells
  have hs := hf.size'
  simp at hs
  go_wp2_with fail
  exact bodyPost_ret (v := .tuple #[.agg #[.int .i64 x.wt.len, .int .i64 x.wt.lines, .int .i64 x.wt.head, .int .i64 x.wt.tail, .int .u64 x.wt.val, .int .u64 x.wt.scale], .nilIface]) (by simp [results, Tryd.results28, go_sem, hc, hz]) rfl
    ⟨rfl, by (repeat' (first | (with_reducible refine Fr0.setCell ?_ _ _ ?_) | (with_reducible refine Fr0.trans ?_ hf) | (with_reducible exact Fr0.alloc (Fr0.refl _) _))) <;> first | omega | (dsimp only; omega)⟩

set_option maxRecDepth 100000 in
set_option maxHeartbeats 400000 in
theorem st_Weight_no {w : World} {p mb : Nat} {most : Int} {sv : Value} {L : List Ent} (hS : St w p mb most sv L) (id : Int) (h : ¬ isKnown L id) :
    Calls Tryd.prog 28 #[.pointer (some ⟨p, 0, none⟩), .int .i64 id] w fun e w' => e = .returned (.tuple #[.agg #[.int .i64 0, .int .i64 0, .int .i64 0, .int .i64 0, .int .u64 0, .int .u64 0], .iface 38 (.int .i64 1)]) ∧ Fr0 w w' := by
  have c1 := fun w' (hf : Fr0 w w') => st_known_no (hS.kept0 hf) id h
  have C1 := Lib.hid c1
  clear c1 hS h
  go_enter Tryd.func28, Tryd.ntmps28
  go_wp2_with fail
  refine (C1.out _ ((Fr0.refl w).alloc _)).mono ?_
  rintro e w' ⟨rfl, rfl⟩
  go_wp2_with fail
  exact bodyPost_ret (v := .tuple #[.agg #[.int .i64 0, .int .i64 0, .int .i64 0, .int .i64 0, .int .u64 0, .int .u64 0], .iface 38 (.int .i64 1)]) (by simp [results, Tryd.results28, go_sem]) rfl
    ⟨rfl, (Fr0.refl w).alloc _⟩

set_option maxRecDepth 100000 in
set_option maxHeartbeats 400000 in
theorem st_Len {w : World} {p mb : Nat} {most : Int} {sv : Value} {L : List Ent} (hS : St w p mb most sv L) :
    Calls Tryd.prog 9 #[.pointer (some ⟨p, 0, none⟩)] w fun e w' => e = .returned (.int .i64 L.length) ∧ w = w' := by
  obtain ⟨a, cap, rfl⟩ := hS.form
  obtain ⟨c0, c1, c2, f, l⟩ := cells3 hS.ptr
  clear hS
  go_enter Tryd.func9, Tryd.ntmps9
  go_wp2_with fail
  go_ret
  exact ⟨rfl, rfl⟩

end Go.Proofs.YtodmpcnpedpheaaDoor

/- The walks of find, add, New. -/
set_option linter.unusedSimpArgs false
set_option linter.unusedVariables false
namespace Go.Proofs.YtodmpcnpedpheaaDoor
open Go.RowKit

set_option maxRecDepth 100000 in
set_option maxHeartbeats 400000 in
theorem st_find_some {w : World} {p mb : Nat} {most : Int} {sv : Value} {L : List Ent} (hS : St w p mb most sv L) (r : Rl) (j : Nat) (hj : ruleIdx r L = some j) :
    Calls Tryd.prog 46 #[.pointer (some ⟨p, 0, none⟩), .agg #[.int .i64 r.kind, .int .u8 r.letter, .int .i64 r.left, .int .i64 r.right, .int .i64 r.times]] w fun e w' => e = .returned (.tuple #[.int .i64 ((j : Int) + 1), .nilIface]) ∧ Fr0 w w' := by
  obtain ⟨c0, c1, c2, f, l⟩ := cells3 hS.ptr
  have lm := lt_of_block hS.mp
  have hl : (Instr.lookup 55 (.map (some mb)) (.agg #[.int .i64 r.kind, .int .u8 r.letter, .int .i64 r.left, .int .i64 r.right, .int .i64 r.times]) true).run Tryd.prog (w.alloc (.cells #[.int .i64 r.kind, .int .u8 r.letter, .int .i64 r.left, .int .i64 r.right, .int .i64 r.times] 112 (0, 0))).drew = .ok (.tuple #[.int .i64 ((j : Int) + 1), .bool true]) (w.alloc (.cells #[.int .i64 r.kind, .int .u8 r.letter, .int .i64 r.left, .int .i64 r.right, .int .i64 r.times] 112 (0, 0))).drew :=
    run_lookup_some r j _ ((alloc_lt _ _ _ lm).trans hS.mp) hj
  clear hj hS
  go_enter Tryd.func46, Tryd.ntmps46
  go_wp2_with fail
  refine region_still (by kernel_rfl) (by kernel_rfl) ?_
  iterate 11 still_step
  refine wpStill_nil ?_
  clear hl
  go_wp2_with fail
  go_ret2
  exact ⟨rfl, ((Fr0.refl w).alloc _).drew⟩

set_option maxRecDepth 100000 in
set_option maxHeartbeats 400000 in
theorem st_find_none {w : World} {p mb : Nat} {most : Int} {sv : Value} {L : List Ent} (hS : St w p mb most sv L) (r : Rl) (hj : ruleIdx r L = none) (hr : (L.length : Int) < most) :
    Calls Tryd.prog 46 #[.pointer (some ⟨p, 0, none⟩), .agg #[.int .i64 r.kind, .int .u8 r.letter, .int .i64 r.left, .int .i64 r.right, .int .i64 r.times]] w fun e w' => e = .returned (.tuple #[.int .i64 0, .nilIface]) ∧ Fr0 w w' := by
  obtain ⟨c0, c1, c2, f, l⟩ := cells3 hS.ptr
  have lm := lt_of_block hS.mp
  obtain ⟨a, cap, rfl⟩ := hS.form
  have hl : (Instr.lookup 55 (.map (some mb)) (.agg #[.int .i64 r.kind, .int .u8 r.letter, .int .i64 r.left, .int .i64 r.right, .int .i64 r.times]) true).run Tryd.prog (w.alloc (.cells #[.int .i64 r.kind, .int .u8 r.letter, .int .i64 r.left, .int .i64 r.right, .int .i64 r.times] 112 (0, 0))).drew = .ok (.tuple #[.int .i64 0, .bool false]) (w.alloc (.cells #[.int .i64 r.kind, .int .u8 r.letter, .int .i64 r.left, .int .i64 r.right, .int .i64 r.times] 112 (0, 0))).drew :=
    run_lookup_none r _ ((alloc_lt _ _ _ lm).trans hS.mp) hj
  clear hj hS
  go_enter Tryd.func46, Tryd.ntmps46
  go_wp2_with fail
  refine region_still (by kernel_rfl) (by kernel_rfl) ?_
  iterate 11 still_step
  refine wpStill_nil ?_
  clear hl
  go_wp2_with fail
  refine region_still (by kernel_rfl) (by kernel_rfl) ?_
  iterate 10 still_step
  refine wpStill_nil ?_
  go_wp2_with fail
  go_ret2
  exact ⟨rfl, ((Fr0.refl w).alloc _).drew.drew⟩

set_option maxRecDepth 100000 in
set_option maxHeartbeats 400000 in
theorem st_find_full {w : World} {p mb : Nat} {most : Int} {sv : Value} {L : List Ent} (hS : St w p mb most sv L) (r : Rl) (hj : ruleIdx r L = none) (hr : most ≤ (L.length : Int)) :
    Calls Tryd.prog 46 #[.pointer (some ⟨p, 0, none⟩), .agg #[.int .i64 r.kind, .int .u8 r.letter, .int .i64 r.left, .int .i64 r.right, .int .i64 r.times]] w fun e w' => e = .returned (.tuple #[.int .i64 0, .iface 38 (.int .i64 3)]) ∧ Fr0 w w' := by
  obtain ⟨c0, c1, c2, f, l⟩ := cells3 hS.ptr
  have lm := lt_of_block hS.mp
  obtain ⟨a, cap, rfl⟩ := hS.form
  have hl : (Instr.lookup 55 (.map (some mb)) (.agg #[.int .i64 r.kind, .int .u8 r.letter, .int .i64 r.left, .int .i64 r.right, .int .i64 r.times]) true).run Tryd.prog (w.alloc (.cells #[.int .i64 r.kind, .int .u8 r.letter, .int .i64 r.left, .int .i64 r.right, .int .i64 r.times] 112 (0, 0))).drew = .ok (.tuple #[.int .i64 0, .bool false]) (w.alloc (.cells #[.int .i64 r.kind, .int .u8 r.letter, .int .i64 r.left, .int .i64 r.right, .int .i64 r.times] 112 (0, 0))).drew :=
    run_lookup_none r _ ((alloc_lt _ _ _ lm).trans hS.mp) hj
  clear hj hS
  go_enter Tryd.func46, Tryd.ntmps46
  go_wp2_with fail
  refine region_still (by kernel_rfl) (by kernel_rfl) ?_
  iterate 11 still_step
  refine wpStill_nil ?_
  clear hl
  go_wp2_with fail
  refine region_still (by kernel_rfl) (by kernel_rfl) ?_
  iterate 10 still_step
  refine wpStill_nil ?_
  go_wp2_with fail
  go_ret2
  exact ⟨rfl, ((Fr0.refl w).alloc _).drew.drew⟩

set_option maxRecDepth 100000 in
set_option maxHeartbeats 400000 in
theorem st_New (w : World) :
    Calls Tryd.prog 15 #[.int .i64 1048576] w fun e w' => e = .returned (.pointer (some ⟨w.heap.size + 1, 0, none⟩)) ∧ Fr0 w w' ∧ St w' (w.heap.size + 1) w.heap.size 1048576 (.slice none 0 0) [] ∧ w'.heap.size = w.heap.size + 2 := by
  have hmm := @run_makeMap Tryd.prog
  go_enter Tryd.func15, Tryd.ntmps15
  go_wp2_with fail
  refine (len_Clip _ _ _ _).mono ?_
  rintro e w' ⟨rfl, rfl⟩
  go_wp2_with fail
  go_ret
  refine ⟨rfl, ((Fr0.refl w).alloc _).alloc _, ⟨alloc2_1 _ _ _, alloc2_0 _ _ _, World.ownsRow_nil _ _ _ _, by simp⟩, by simp⟩

end Go.Proofs.YtodmpcnpedpheaaDoor

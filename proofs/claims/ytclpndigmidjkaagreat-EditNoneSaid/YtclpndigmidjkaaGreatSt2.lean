/- The walks of Weight, Depth, Even, Len, and of avl.Balanced, patch.unknown, patch.size. -/
import Derived.Test.YtclpndigmidjkaaGreatSt
set_option linter.unusedSimpArgs false
set_option linter.unusedVariables false
namespace Go.Proofs.YtclpndigmidjkaaGreat
open Go.RowKit

@[go_sem] theorem fld_ent0 (c0 c1 c2 c3 c4 c5 c6 c7 c8 c9 c10 c11 c12 : Value) (w : World) : (Instr.field 183 (.agg #[c0, c1, c2, c3, c4, c5, c6, c7, c8, c9, c10, c11, c12]) 0).run Tryz.prog w = .ok (.agg #[c0, c1, c2, c3, c4]) w := by kernel_rfl
@[go_sem] theorem fld_ent1 (c0 c1 c2 c3 c4 c5 c6 c7 c8 c9 c10 c11 c12 : Value) (w : World) : (Instr.field 183 (.agg #[c0, c1, c2, c3, c4, c5, c6, c7, c8, c9, c10, c11, c12]) 1).run Tryz.prog w = .ok (.agg #[c5, c6, c7, c8, c9, c10]) w := by kernel_rfl
@[go_sem] theorem fld_ent2 (c0 c1 c2 c3 c4 c5 c6 c7 c8 c9 c10 c11 c12 : Value) (w : World) : (Instr.field 183 (.agg #[c0, c1, c2, c3, c4, c5, c6, c7, c8, c9, c10, c11, c12]) 2).run Tryz.prog w = .ok c11 w := by kernel_rfl
@[go_sem] theorem fld_ent3 (c0 c1 c2 c3 c4 c5 c6 c7 c8 c9 c10 c11 c12 : Value) (w : World) : (Instr.field 183 (.agg #[c0, c1, c2, c3, c4, c5, c6, c7, c8, c9, c10, c11, c12]) 3).run Tryz.prog w = .ok c12 w := by kernel_rfl
@[go_sem] theorem fld_wt0 (c5 c6 c7 c8 c9 c10 : Value) (w : World) : (Instr.field 157 (.agg #[c5, c6, c7, c8, c9, c10]) 0).run Tryz.prog w = .ok c5 w := by kernel_rfl

set_option maxRecDepth 100000 in
set_option maxHeartbeats 400000 in
theorem st_Weight {w : World} {p mb : Nat} {most : Int} {sv : Value} {L : List Ent} (hS : St w p mb most sv L) (id : Int) (h : isKnown L id) :
    Calls Tryz.prog 71 #[.pointer (some ⟨p, 0, none⟩), .int .i64 id] w fun e w' => e = .returned (.tuple #[.agg #[.int .i64 (entAt L id).wt.len, .int .i64 (entAt L id).wt.lines, .int .i64 (entAt L id).wt.head, .int .i64 (entAt L id).wt.tail, .int .u64 (entAt L id).wt.val, .int .u64 (entAt L id).wt.scale], .nilIface]) ∧ Fr0 w w' := by
  have c1 := fun w' (hf : Fr0 w w') => st_known_yes (hS.kept0 hf) id h
  have c2 := fun w' (hf : Fr0 w w') => st_at (hS.kept0 hf) id h
  have C1 := Lib.hid c1
  have C2 := Lib.hid c2
  clear c1 c2 hS
  generalize entAt L id = x at *
  go_enter Tryz.func71, Tryz.ntmps71
  go_wp2_with fail
  refine (C1.out _ ((Fr0.refl w).alloc _)).mono ?_
  rintro e w' ⟨rfl, rfl⟩
  go_wp2_with fail
  refine (C2.out _ ((Fr0.refl w).alloc _)).mono ?_
  rintro e w1 ⟨rfl, hf⟩
  obtain ⟨hc, hz⟩ := hf.cells
  have hs := hf.size'
  simp at hs
  go_wp2_with fail
  exact bodyPost_ret (v := .tuple #[.agg #[.int .i64 x.wt.len, .int .i64 x.wt.lines, .int .i64 x.wt.head, .int .i64 x.wt.tail, .int .u64 x.wt.val, .int .u64 x.wt.scale], .nilIface]) (by simp [results, Tryz.results71, go_sem, hc, hz]) rfl
    ⟨rfl, by (repeat' (first | (with_reducible refine Fr0.setCell ?_ _ _ ?_) | (with_reducible refine Fr0.trans ?_ hf) | (with_reducible exact Fr0.alloc (Fr0.refl _) _))) <;> first | omega | (dsimp only; omega)⟩

set_option maxRecDepth 100000 in
set_option maxHeartbeats 400000 in
theorem st_Weight_no {w : World} {p mb : Nat} {most : Int} {sv : Value} {L : List Ent} (hS : St w p mb most sv L) (id : Int) (h : ¬ isKnown L id) :
    Calls Tryz.prog 71 #[.pointer (some ⟨p, 0, none⟩), .int .i64 id] w fun e w' => e = .returned (.tuple #[.agg #[.int .i64 0, .int .i64 0, .int .i64 0, .int .i64 0, .int .u64 0, .int .u64 0], .iface 52 (.int .i64 1)]) ∧ Fr0 w w' := by
  have c1 := fun w' (hf : Fr0 w w') => st_known_no (hS.kept0 hf) id h
  have C1 := Lib.hid c1
  clear c1 hS h
  go_enter Tryz.func71, Tryz.ntmps71
  go_wp2_with fail
  refine (C1.out _ ((Fr0.refl w).alloc _)).mono ?_
  rintro e w' ⟨rfl, rfl⟩
  go_wp2_with fail
  exact bodyPost_ret (v := .tuple #[.agg #[.int .i64 0, .int .i64 0, .int .i64 0, .int .i64 0, .int .u64 0, .int .u64 0], .iface 52 (.int .i64 1)]) (by simp [results, Tryz.results71, go_sem]) rfl
    ⟨rfl, (Fr0.refl w).alloc _⟩

set_option maxRecDepth 100000 in
set_option maxHeartbeats 400000 in
theorem st_Depth {w : World} {p mb : Nat} {most : Int} {sv : Value} {L : List Ent} (hS : St w p mb most sv L) (id : Int) (h : isKnown L id) :
    Calls Tryz.prog 81 #[.pointer (some ⟨p, 0, none⟩), .int .i64 id] w fun e w' => e = .returned (.tuple #[.int .i64 (entAt L id).depth, .nilIface]) ∧ Fr0 w w' := by
  have c1 := st_known_yes hS id h
  have c2 := st_at hS id h
  have C1 := Lib.hid c1
  have C2 := Lib.hid c2
  clear c1 c2 hS
  generalize entAt L id = x at *
  go_enter Tryz.func81, Tryz.ntmps81
  go_wp2_with fail
  refine C1.out.mono ?_
  rintro e w' ⟨rfl, rfl⟩
  go_wp2_with fail
  refine C2.out.mono ?_
  rintro e w1 ⟨rfl, hf⟩
  go_wp2_with fail
  go_ret2
  exact ⟨rfl, hf⟩

set_option maxRecDepth 100000 in
set_option maxHeartbeats 400000 in
theorem st_Depth_no {w : World} {p mb : Nat} {most : Int} {sv : Value} {L : List Ent} (hS : St w p mb most sv L) (id : Int) (h : ¬ isKnown L id) :
    Calls Tryz.prog 81 #[.pointer (some ⟨p, 0, none⟩), .int .i64 id] w fun e w' => e = .returned (.tuple #[.int .i64 0, .iface 52 (.int .i64 1)]) ∧ Fr0 w w' := by
  have c1 := st_known_no hS id h
  have C1 := Lib.hid c1
  clear c1 hS h
  go_enter Tryz.func81, Tryz.ntmps81
  go_wp2_with fail
  refine C1.out.mono ?_
  rintro e w' ⟨rfl, rfl⟩
  go_wp2_with fail
  go_ret2
  exact ⟨rfl, Fr0.refl _⟩

set_option maxRecDepth 100000 in
set_option maxHeartbeats 400000 in
theorem st_Even {w : World} {p mb : Nat} {most : Int} {sv : Value} {L : List Ent} (hS : St w p mb most sv L) (id : Int) (h : isKnown L id) :
    Calls Tryz.prog 118 #[.pointer (some ⟨p, 0, none⟩), .int .i64 id] w fun e w' => e = .returned (.bool (entAt L id).even) ∧ Fr0 w w' := by
  have c1 := st_known_yes hS id h
  have c2 := st_at hS id h
  have C1 := Lib.hid c1
  have C2 := Lib.hid c2
  clear c1 c2 hS
  generalize entAt L id = x at *
  go_enter Tryz.func118, Tryz.ntmps118
  go_wp2_with fail
  refine C1.out.mono ?_
  rintro e w' ⟨rfl, rfl⟩
  go_wp2_with fail
  refine C2.out.mono ?_
  rintro e w1 ⟨rfl, hf⟩
  go_wp2_with fail
  go_ret
  exact ⟨by simp, hf⟩

set_option maxRecDepth 100000 in
set_option maxHeartbeats 400000 in
theorem st_Len {w : World} {p mb : Nat} {most : Int} {sv : Value} {L : List Ent} (hS : St w p mb most sv L) :
    Calls Tryz.prog 16 #[.pointer (some ⟨p, 0, none⟩)] w fun e w' => e = .returned (.int .i64 L.length) ∧ w = w' := by
  obtain ⟨a, cap, rfl⟩ := hS.form
  obtain ⟨c0, c1, c2, f, l⟩ := cells3 hS.ptr
  clear hS
  go_enter Tryz.func16, Tryz.ntmps16
  go_wp2_with fail
  go_ret
  exact ⟨rfl, rfl⟩

set_option maxRecDepth 100000 in
set_option maxHeartbeats 400000 in
theorem avl_Balanced {w : World} {p mb : Nat} {most : Int} {sv : Value} {L : List Ent} (hS : St w p mb most sv L) (id : Int) (h : isKnown L id) :
    Calls Tryz.prog 90 #[.pointer (some ⟨p, 0, none⟩), .int .i64 id] w fun e w' => e = .returned (.tuple #[.bool (entAt L id).even, .nilIface]) ∧ Fr0 w w' := by
  have c1 := st_Depth hS id h
  have c2 := fun w' (hf : Fr0 w w') => st_Even (hS.kept0 hf) id h
  have C1 := Lib.hid c1
  have C2 := Lib.hid c2
  clear c1 c2 hS
  generalize entAt L id = x at *
  go_enter Tryz.func90, Tryz.ntmps90
  go_wp2_with fail
  refine C1.out.mono ?_
  rintro e w1 ⟨rfl, hf1⟩
  go_wp2_with fail
  refine (C2.out _ hf1).mono ?_
  rintro e w2 ⟨rfl, hf2⟩
  go_wp2_with fail
  go_ret2
  exact ⟨rfl, hf1.trans hf2⟩

set_option maxRecDepth 100000 in
set_option maxHeartbeats 400000 in
theorem avl_Balanced_no {w : World} {p mb : Nat} {most : Int} {sv : Value} {L : List Ent} (hS : St w p mb most sv L) (id : Int) (h : ¬ isKnown L id) :
    Calls Tryz.prog 90 #[.pointer (some ⟨p, 0, none⟩), .int .i64 id] w fun e w' => e = .returned (.tuple #[.bool false, .iface 52 (.int .i64 1)]) ∧ Fr0 w w' := by
  have c1 := st_Depth_no hS id h
  have C1 := Lib.hid c1
  clear c1 hS h
  go_enter Tryz.func90, Tryz.ntmps90
  go_wp2_with fail
  refine C1.out.mono ?_
  rintro e w1 ⟨rfl, hf1⟩
  go_wp2_with fail
  go_ret2
  exact ⟨rfl, hf1⟩

set_option maxRecDepth 100000 in
set_option maxHeartbeats 400000 in
theorem patch_unknown {w : World} {p mb : Nat} {most : Int} {sv : Value} {L : List Ent} (hS : St w p mb most sv L) (id : Int) (b : Bool) (hb : b = (decide (id < 0) || decide ((L.length : Int) < id))) :
    Calls Tryz.prog 61 #[.pointer (some ⟨p, 0, none⟩), .int .i64 id] w fun e w' => e = .returned (.bool b) ∧ w = w' := by
  have c1 := st_Len hS
  have C1 := Lib.hid c1
  have HB := Lib.hid hb
  clear c1 hS hb
  by_cases h0 : id < 0
  · go_enter Tryz.func61, Tryz.ntmps61
    go_wp2_with fail
    go_ret
    exact ⟨by rw [HB.out]; simp [h0], rfl⟩
  · have hd : decide (id < 0) = false := by simpa using h0
    go_enter Tryz.func61, Tryz.ntmps61
    go_wp2_with fail
    refine C1.out.mono ?_
    rintro e w1 ⟨rfl, rfl⟩
    go_wp2_with fail
    go_ret
    exact ⟨by rw [HB.out]; simp [hd], rfl⟩

set_option maxRecDepth 100000 in
set_option maxHeartbeats 400000 in
theorem patch_size {w : World} {p mb : Nat} {most : Int} {sv : Value} {L : List Ent} (hS : St w p mb most sv L) (id : Int) (h : isKnown L id) :
    Calls Tryz.prog 64 #[.pointer (some ⟨p, 0, none⟩), .int .i64 id] w fun e w' => e = .returned (.tuple #[.int .i64 (entAt L id).wt.len, .nilIface]) ∧ Fr0 w w' := by
  have c1 := st_Weight hS id h
  have C1 := Lib.hid c1
  clear c1 hS h
  generalize entAt L id = x at *
  go_enter Tryz.func64, Tryz.ntmps64
  go_wp2_with fail
  refine C1.out.mono ?_
  rintro e w1 ⟨rfl, hf1⟩
  go_wp2_with fail
  go_ret2
  exact ⟨rfl, hf1.alloc _⟩

end Go.Proofs.YtclpndigmidjkaaGreat

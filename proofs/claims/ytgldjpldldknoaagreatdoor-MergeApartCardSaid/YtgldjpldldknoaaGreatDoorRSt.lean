/- The state of a store, and the walks of its functions that only read. -/
import Derived.Test.YtgldjpldldknoaaGreatDoorRMap
import Derived.Test.YtgldjpldldknoaaGreatDoorRWt4
set_option linter.unusedSimpArgs false
set_option linter.unusedVariables false
namespace Go.Proofs.YtgldjpldldknoaaGreatDoor
open Go.RowKit
@[reducible] def Ent.V (e : Ent) : Value := .agg #[.int .i64 e.rule.kind, .int .u8 e.rule.letter, .int .i64 e.rule.left, .int .i64 e.rule.right, .int .i64 e.rule.times,
 .int .i64 e.wt.len, .int .i64 e.wt.lines, .int .i64 e.wt.head, .int .i64 e.wt.tail, .int .u64 e.wt.val, .int .u64 e.wt.scale, .int .i64 e.depth, .bool e.even]
@[reducible] def Wt.V (t : Wt) : Value := .agg #[.int .i64 t.len, .int .i64 t.lines, .int .i64 t.head, .int .i64 t.tail, .int .u64 t.val, .int .u64 t.scale]
structure St (w : World) (p mb : Nat) (most : Int) (sv : Value) (L : List Ent) : Prop where
 ptr : w.heap[p]? = some (.cells #[.int .i64 most, sv, .map (some mb)] 100 (0, 0))
 mp : w.heap[mb]? = some (.map (entriesFrom 0 L).toArray L.length)
 own : w.ownsRow 0 84 13 sv L.length (entCells L)
 big : L.length ≤ 1048576
theorem St.kept {S : Nat → Prop} {w w' : World} {p mb : Nat} {most : Int} {sv : Value} {L : List Ent} (h : St w p mb most sv L) (hf : Fr S w w') (h1 : ¬ S p) (h2 : ¬ S mb) (h3 : ∀ k, sv.ownBlock = some k → ¬ S k) : St w' p mb most sv L :=
 ⟨hf.kept h.ptr h1, hf.kept h.mp h2, hf.owns h.own h3, h.big⟩
theorem St.kept0 {w w' : World} {p mb : Nat} {most : Int} {sv : Value} {L : List Ent} (h : St w p mb most sv L) (hf : Fr0 w w') : St w' p mb most sv L :=
 ⟨hf.kept h.ptr, hf.kept h.mp, hf.owns h.own, h.big⟩
theorem St.form {w : World} {p mb : Nat} {most : Int} {sv : Value} {L : List Ent} (h : St w p mb most sv L) : ∃ a cap, sv = .slice a L.length cap := by
 rcases h.own.2 with ⟨h1, h2⟩ | ⟨g, cap, cur, h1, _⟩
 · exact ⟨none, 0, by rw [h1, h2]⟩
 · exact ⟨_, cap, h1⟩
theorem cells3 {w : World} {b : Nat} {x0 x1 x2 : Value} {t : TypeId} (h : w.heap[b]? = some (.cells #[x0, x1, x2] t (0, 0))) :
    w.cell? ⟨b, 0, none⟩ = some x0 ∧ w.cell? ⟨b, 1, none⟩ = some x1 ∧ w.cell? ⟨b, 2, none⟩ = some x2 ∧ (∀ o, w.frozen? ⟨b, o, none⟩ = false) ∧ b < w.heap.size :=
 ⟨by rw [cell_of_block h]; rfl, by rw [cell_of_block h]; rfl, by rw [cell_of_block h]; rfl, fun o => frozen_of_block h o, lt_of_block h⟩
set_option maxHeartbeats 400000 in
theorem st_known (p n cap : Nat) (a : Option Addr) (id : Int) (w : World) (hp : w.cell? ⟨p, 1, none⟩ = some (.slice a n cap)) (b : Bool) (hb : b = (decide (0 ≤ id) && decide (id ≤ n))) :
    Calls Tryz.prog 26 #[.pointer (some ⟨p, 0, none⟩), .int .i64 id] w fun e w' => e = .returned (.bool b) ∧ w = w' := by
 have HB := Lib.hid hb
 clear hb
 by_cases h0 : 0 ≤ id
 · go_enter Tryz.func26, Tryz.ntmps26
   go_wp2
   go_ret
   exact ⟨by rw [HB.out]; simp [h0], rfl⟩
 · have hd : decide (0 ≤ id) = false := by simpa using h0
   go_enter Tryz.func26, Tryz.ntmps26
   go_wp2
   go_ret
   exact ⟨by rw [HB.out]; simp [hd], rfl⟩
theorem st_known_yes {w : World} {p mb : Nat} {most : Int} {sv : Value} {L : List Ent} (hS : St w p mb most sv L) (id : Int) (h : isKnown L id) :
    Calls Tryz.prog 26 #[.pointer (some ⟨p, 0, none⟩), .int .i64 id] w fun e w' => e = .returned (.bool true) ∧ w = w' := by
 obtain ⟨a, cap, rfl⟩ := hS.form
 exact st_known p L.length cap a id w (cells3 hS.ptr).2.1 true (by simp [h.1, h.2])
set_option maxHeartbeats 400000 in
theorem st_at_cell (p lb n cap k : Nat) (id : Int) (x : Ent) (w : World) (hid : id = (k : Int) + 1) (hk : k < n) (hn : n ≤ 1048576)
    (hp : w.cell? ⟨p, 1, none⟩ = some (.slice (some ⟨lb, 0, none⟩) n cap))
    (h0 : w.cell? ⟨lb, k * 13, none⟩ = some (.int .i64 x.rule.kind))
    (h1 : w.cell? ⟨lb, k * 13 + 1, none⟩ = some (.int .u8 x.rule.letter))
    (h2 : w.cell? ⟨lb, k * 13 + 2, none⟩ = some (.int .i64 x.rule.left))
    (h3 : w.cell? ⟨lb, k * 13 + 3, none⟩ = some (.int .i64 x.rule.right))
    (h4 : w.cell? ⟨lb, k * 13 + 4, none⟩ = some (.int .i64 x.rule.times))
    (h5 : w.cell? ⟨lb, k * 13 + 5, none⟩ = some (.int .i64 x.wt.len))
    (h6 : w.cell? ⟨lb, k * 13 + 6, none⟩ = some (.int .i64 x.wt.lines))
    (h7 : w.cell? ⟨lb, k * 13 + 7, none⟩ = some (.int .i64 x.wt.head))
    (h8 : w.cell? ⟨lb, k * 13 + 8, none⟩ = some (.int .i64 x.wt.tail))
    (h9 : w.cell? ⟨lb, k * 13 + 9, none⟩ = some (.int .u64 x.wt.val))
    (h10 : w.cell? ⟨lb, k * 13 + 10, none⟩ = some (.int .u64 x.wt.scale))
    (h11 : w.cell? ⟨lb, k * 13 + 11, none⟩ = some (.int .i64 x.depth))
    (h12 : w.cell? ⟨lb, k * 13 + 12, none⟩ = some (.bool x.even)) :
    Calls Tryz.prog 27 #[.pointer (some ⟨p, 0, none⟩), .int .i64 id] w fun e w' => e = .returned x.V ∧ Fr0 w w' := by
 subst hid
 have lp := World.block_lt_of_cell? w _ hp
 have ll := World.block_lt_of_cell? w _ h0
 go_enter Tryz.func27, Tryz.ntmps27
 go_wp2
 exact bodyPost_ret (v := x.V) (by simp [results, Tryz.results27, go_sem]) rfl ⟨rfl, (Fr0.refl w).alloc _⟩
set_option maxHeartbeats 400000 in
theorem st_at_zero (p : Nat) (w : World) :
    Calls Tryz.prog 27 #[.pointer (some ⟨p, 0, none⟩), .int .i64 0] w fun e w' => e = .returned (.agg #[.int .i64 0, .int .u8 0, .int .i64 0, .int .i64 0, .int .i64 0, .int .i64 0, .int .i64 0, .int .i64 0, .int .i64 0, .int .u64 0, .int .u64 1, .int .i64 0, .bool true]) ∧ Fr0 w w' := by
 go_enter Tryz.func27, Tryz.ntmps27
 go_wp2_with fail
 refine (wt_Unit _).mono ?_
 rintro e w1 ⟨rfl, hf⟩
 obtain ⟨hc, hz⟩ := hf.cells
 have hs := hf.size'
 simp at hs
 go_wp2_with fail
 exact bodyPost_ret (v := .agg #[.int .i64 0, .int .u8 0, .int .i64 0, .int .i64 0, .int .i64 0, .int .i64 0, .int .i64 0, .int .i64 0, .int .i64 0, .int .u64 0, .int .u64 1, .int .i64 0, .bool true]) (by simp [results, Tryz.results27, go_sem, hc, hz]) rfl
  ⟨rfl, by (repeat' (first | (with_reducible refine Fr0.setCell ?_ _ _ ?_) | (with_reducible refine Fr0.trans ?_ hf) | (with_reducible exact Fr0.alloc (Fr0.refl _) _))) <;> first | omega | (dsimp only; omega)⟩
theorem owned_ent {w : World} {p mb : Nat} {most : Int} {sv : Value} {L : List Ent} (hS : St w p mb most sv L) {k : Nat} {x : Ent} (hx : L[k]? = some x) :
    ∃ lb cap, sv = .slice (some ⟨lb, 0, none⟩) L.length cap ∧ ∀ j u, x.vals[j]? = some u → w.cell? ⟨lb, k * 13 + j, none⟩ = some u := by
 have hlt : k < L.length := (List.getElem?_eq_some_iff.1 hx).1
 obtain ⟨lb, cap, hsv, _, _⟩ := hS.own.form (by omega)
 refine ⟨lb, cap, hsv, fun j u hu => ?_⟩
 have hj : j < 13 := by have := (List.getElem?_eq_some_iff.1 hu).1; simpa [Ent.vals] using this
 have h := hS.own
 rw [hsv] at h
 refine owns_cell h _ _ ?_
 rw [entCells, flat_get Ent.vals 13 L (fun _ _ => rfl) k j hj x hx]
 exact hu
theorem st_at {w : World} {p mb : Nat} {most : Int} {sv : Value} {L : List Ent} (hS : St w p mb most sv L) (id : Int) (h : isKnown L id) :
    Calls Tryz.prog 27 #[.pointer (some ⟨p, 0, none⟩), .int .i64 id] w fun e w' => e = .returned (.agg #[.int .i64 (entAt L id).rule.kind, .int .u8 (entAt L id).rule.letter, .int .i64 (entAt L id).rule.left, .int .i64 (entAt L id).rule.right, .int .i64 (entAt L id).rule.times, .int .i64 (entAt L id).wt.len, .int .i64 (entAt L id).wt.lines, .int .i64 (entAt L id).wt.head, .int .i64 (entAt L id).wt.tail, .int .u64 (entAt L id).wt.val, .int .u64 (entAt L id).wt.scale, .int .i64 (entAt L id).depth, .bool (entAt L id).even]) ∧ Fr0 w w' := by
 by_cases h0 : id = 0
 · subst h0
   exact st_at_zero p w
 · obtain ⟨h1, h2⟩ := h
   obtain ⟨k, hk⟩ : ∃ k : Nat, id = (k : Int) + 1 := ⟨(id - 1).toNat, by omega⟩
   subst hk
   have hlt : k < L.length := by omega
   obtain ⟨lb, cap, rfl, hc⟩ := owned_ent hS (List.getElem?_eq_getElem hlt)
   have he : entAt L ((k : Int) + 1) = L[k] := by
    unfold entAt
    rw [if_neg (by omega), show ((k : Int) + 1 - 1).toNat = k by omega, List.getD_eq_getElem?_getD, List.getElem?_eq_getElem hlt]
    rfl
   rw [he]
   exact st_at_cell p lb L.length cap k _ L[k] w rfl hlt hS.big (cells3 hS.ptr).2.1 (hc 0 _ rfl) (hc 1 _ rfl) (hc 2 _ rfl) (hc 3 _ rfl) (hc 4 _ rfl) (hc 5 _ rfl) (hc 6 _ rfl) (hc 7 _ rfl) (hc 8 _ rfl) (hc 9 _ rfl) (hc 10 _ rfl) (hc 11 _ rfl) (hc 12 _ rfl)
end Go.Proofs.YtgldjpldldknoaaGreatDoor
/- The walks of Weight, Depth, Even, Len, and of avl.Balanced, patch.unknown, patch.size. -/
set_option linter.unusedSimpArgs false
set_option linter.unusedVariables false
namespace Go.Proofs.YtgldjpldldknoaaGreatDoor
open Go.RowKit
@[go_sem] theorem fld_ent0 (c0 c1 c2 c3 c4 c5 c6 c7 c8 c9 c10 c11 c12 : Value) (w : World) : (Instr.field 84 (.agg #[c0, c1, c2, c3, c4, c5, c6, c7, c8, c9, c10, c11, c12]) 0).run Tryz.prog w = .ok (.agg #[c0, c1, c2, c3, c4]) w := by kernel_rfl
@[go_sem] theorem fld_ent1 (c0 c1 c2 c3 c4 c5 c6 c7 c8 c9 c10 c11 c12 : Value) (w : World) : (Instr.field 84 (.agg #[c0, c1, c2, c3, c4, c5, c6, c7, c8, c9, c10, c11, c12]) 1).run Tryz.prog w = .ok (.agg #[c5, c6, c7, c8, c9, c10]) w := by kernel_rfl
@[go_sem] theorem fld_ent2 (c0 c1 c2 c3 c4 c5 c6 c7 c8 c9 c10 c11 c12 : Value) (w : World) : (Instr.field 84 (.agg #[c0, c1, c2, c3, c4, c5, c6, c7, c8, c9, c10, c11, c12]) 2).run Tryz.prog w = .ok c11 w := by kernel_rfl
@[go_sem] theorem fld_ent3 (c0 c1 c2 c3 c4 c5 c6 c7 c8 c9 c10 c11 c12 : Value) (w : World) : (Instr.field 84 (.agg #[c0, c1, c2, c3, c4, c5, c6, c7, c8, c9, c10, c11, c12]) 3).run Tryz.prog w = .ok c12 w := by kernel_rfl
@[go_sem] theorem fld_wt0 (c5 c6 c7 c8 c9 c10 : Value) (w : World) : (Instr.field 47 (.agg #[c5, c6, c7, c8, c9, c10]) 0).run Tryz.prog w = .ok c5 w := by kernel_rfl
set_option maxRecDepth 100000 in
set_option maxHeartbeats 400000 in
theorem st_Weight {w : World} {p mb : Nat} {most : Int} {sv : Value} {L : List Ent} (hS : St w p mb most sv L) (id : Int) (h : isKnown L id) :
    Calls Tryz.prog 11 #[.pointer (some ⟨p, 0, none⟩), .int .i64 id] w fun e w' => e = .returned (.tuple #[.agg #[.int .i64 (entAt L id).wt.len, .int .i64 (entAt L id).wt.lines, .int .i64 (entAt L id).wt.head, .int .i64 (entAt L id).wt.tail, .int .u64 (entAt L id).wt.val, .int .u64 (entAt L id).wt.scale], .nilIface]) ∧ Fr0 w w' := by
 have c1 := fun w' (hf : Fr0 w w') => st_known_yes (hS.kept0 hf) id h
 have c2 := fun w' (hf : Fr0 w w') => st_at (hS.kept0 hf) id h
 have C1 := Lib.hid c1
 have C2 := Lib.hid c2
 clear c1 c2 hS
 generalize entAt L id = x at *
 go_enter Tryz.func11, Tryz.ntmps11
 go_wp2_with fail
 refine (C1.out _ ((Fr0.refl w).alloc _)).mono ?_
 rintro e w' ⟨rfl, rfl⟩
 go_wp2_with fail
 refine (C2.out _ ((Fr0.refl w).alloc _)).mono ?_
 rintro e w1 ⟨rfl, hf⟩
 obtain ⟨hc, hz⟩ := hf.cells
 have hs := hf.size'
 simp at hs
 go_wp2_with fail
 exact bodyPost_ret (v := .tuple #[.agg #[.int .i64 x.wt.len, .int .i64 x.wt.lines, .int .i64 x.wt.head, .int .i64 x.wt.tail, .int .u64 x.wt.val, .int .u64 x.wt.scale], .nilIface]) (by simp [results, Tryz.results11, go_sem, hc, hz]) rfl
  ⟨rfl, by (repeat' (first | (with_reducible refine Fr0.setCell ?_ _ _ ?_) | (with_reducible refine Fr0.trans ?_ hf) | (with_reducible exact Fr0.alloc (Fr0.refl _) _))) <;> first | omega | (dsimp only; omega)⟩
set_option maxRecDepth 100000 in
set_option maxHeartbeats 400000 in
theorem st_Depth {w : World} {p mb : Nat} {most : Int} {sv : Value} {L : List Ent} (hS : St w p mb most sv L) (id : Int) (h : isKnown L id) :
    Calls Tryz.prog 42 #[.pointer (some ⟨p, 0, none⟩), .int .i64 id] w fun e w' => e = .returned (.tuple #[.int .i64 (entAt L id).depth, .nilIface]) ∧ Fr0 w w' := by
 have c1 := st_known_yes hS id h
 have c2 := st_at hS id h
 have C1 := Lib.hid c1
 have C2 := Lib.hid c2
 clear c1 c2 hS
 generalize entAt L id = x at *
 go_enter Tryz.func42, Tryz.ntmps42
 go_wp2_with fail
 refine C1.out.mono ?_
 rintro e w' ⟨rfl, rfl⟩
 go_wp2_with fail
 refine C2.out.mono ?_
 rintro e w1 ⟨rfl, hf⟩
 go_wp2_with fail
 go_ret2
 exact ⟨rfl, hf⟩
set_option maxRecDepth 100000 in
set_option maxHeartbeats 400000 in
theorem st_Even {w : World} {p mb : Nat} {most : Int} {sv : Value} {L : List Ent} (hS : St w p mb most sv L) (id : Int) (h : isKnown L id) :
    Calls Tryz.prog 43 #[.pointer (some ⟨p, 0, none⟩), .int .i64 id] w fun e w' => e = .returned (.bool (entAt L id).even) ∧ Fr0 w w' := by
 have c1 := st_known_yes hS id h
 have c2 := st_at hS id h
 have C1 := Lib.hid c1
 have C2 := Lib.hid c2
 clear c1 c2 hS
 generalize entAt L id = x at *
 go_enter Tryz.func43, Tryz.ntmps43
 go_wp2_with fail
 refine C1.out.mono ?_
 rintro e w' ⟨rfl, rfl⟩
 go_wp2_with fail
 refine C2.out.mono ?_
 rintro e w1 ⟨rfl, hf⟩
 go_wp2_with fail
 go_ret
 exact ⟨by simp, hf⟩
set_option maxRecDepth 100000 in
set_option maxHeartbeats 400000 in
theorem st_Len {w : World} {p mb : Nat} {most : Int} {sv : Value} {L : List Ent} (hS : St w p mb most sv L) :
    Calls Tryz.prog 55 #[.pointer (some ⟨p, 0, none⟩)] w fun e w' => e = .returned (.int .i64 L.length) ∧ w = w' := by
 obtain ⟨a, cap, rfl⟩ := hS.form
 obtain ⟨c0, c1, c2, f, l⟩ := cells3 hS.ptr
 clear hS
 go_enter Tryz.func55, Tryz.ntmps55
 go_wp2_with fail
 go_ret
 exact ⟨rfl, rfl⟩
set_option maxRecDepth 100000 in
set_option maxHeartbeats 400000 in
theorem avl_Balanced {w : World} {p mb : Nat} {most : Int} {sv : Value} {L : List Ent} (hS : St w p mb most sv L) (id : Int) (h : isKnown L id) :
    Calls Tryz.prog 23 #[.pointer (some ⟨p, 0, none⟩), .int .i64 id] w fun e w' => e = .returned (.tuple #[.bool (entAt L id).even, .nilIface]) ∧ Fr0 w w' := by
 have c1 := st_Depth hS id h
 have c2 := fun w' (hf : Fr0 w w') => st_Even (hS.kept0 hf) id h
 have C1 := Lib.hid c1
 have C2 := Lib.hid c2
 clear c1 c2 hS
 generalize entAt L id = x at *
 go_enter Tryz.func23, Tryz.ntmps23
 go_wp2_with fail
 refine C1.out.mono ?_
 rintro e w1 ⟨rfl, hf1⟩
 go_wp2_with fail
 refine (C2.out _ hf1).mono ?_
 rintro e w2 ⟨rfl, hf2⟩
 go_wp2_with fail
 go_ret2
 exact ⟨rfl, hf1.trans hf2⟩
set_option maxRecDepth 100000 in
set_option maxHeartbeats 400000 in
theorem patch_unknown {w : World} {p mb : Nat} {most : Int} {sv : Value} {L : List Ent} (hS : St w p mb most sv L) (id : Int) (b : Bool) (hb : b = (decide (id < 0) || decide ((L.length : Int) < id))) :
    Calls Tryz.prog 47 #[.pointer (some ⟨p, 0, none⟩), .int .i64 id] w fun e w' => e = .returned (.bool b) ∧ w = w' := by
 have c1 := st_Len hS
 have C1 := Lib.hid c1
 have HB := Lib.hid hb
 clear c1 hS hb
 by_cases h0 : id < 0
 · go_enter Tryz.func47, Tryz.ntmps47
   go_wp2_with fail
   go_ret
   exact ⟨by rw [HB.out]; simp [h0], rfl⟩
 · have hd : decide (id < 0) = false := by simpa using h0
   go_enter Tryz.func47, Tryz.ntmps47
   go_wp2_with fail
   refine C1.out.mono ?_
   rintro e w1 ⟨rfl, rfl⟩
   go_wp2_with fail
   go_ret
   exact ⟨by rw [HB.out]; simp [hd], rfl⟩
set_option maxRecDepth 100000 in
set_option maxHeartbeats 400000 in
theorem patch_size {w : World} {p mb : Nat} {most : Int} {sv : Value} {L : List Ent} (hS : St w p mb most sv L) (id : Int) (h : isKnown L id) :
    Calls Tryz.prog 29 #[.pointer (some ⟨p, 0, none⟩), .int .i64 id] w fun e w' => e = .returned (.tuple #[.int .i64 (entAt L id).wt.len, .nilIface]) ∧ Fr0 w w' := by
 have c1 := st_Weight hS id h
 have C1 := Lib.hid c1
 clear c1 hS h
 generalize entAt L id = x at *
 go_enter Tryz.func29, Tryz.ntmps29
 go_wp2_with fail
 refine C1.out.mono ?_
 rintro e w1 ⟨rfl, hf1⟩
 go_wp2_with fail
 go_ret2
 exact ⟨rfl, hf1.alloc _⟩
end Go.Proofs.YtgldjpldldknoaaGreatDoor
/- The walks of find, add, New. -/
set_option linter.unusedSimpArgs false
set_option linter.unusedVariables false
namespace Go.Proofs.YtgldjpldldknoaaGreatDoor
open Go.RowKit
set_option maxRecDepth 100000 in
set_option maxHeartbeats 400000 in
theorem st_find_some {w : World} {p mb : Nat} {most : Int} {sv : Value} {L : List Ent} (hS : St w p mb most sv L) (r : Rl) (j : Nat) (hj : ruleIdx r L = some j) :
    Calls Tryz.prog 57 #[.pointer (some ⟨p, 0, none⟩), .agg #[.int .i64 r.kind, .int .u8 r.letter, .int .i64 r.left, .int .i64 r.right, .int .i64 r.times]] w fun e w' => e = .returned (.tuple #[.int .i64 ((j : Int) + 1), .nilIface]) ∧ Fr0 w w' := by
 obtain ⟨c0, c1, c2, f, l⟩ := cells3 hS.ptr
 have lm := lt_of_block hS.mp
 have hl : (Instr.lookup 97 (.map (some mb)) (.agg #[.int .i64 r.kind, .int .u8 r.letter, .int .i64 r.left, .int .i64 r.right, .int .i64 r.times]) true).run Tryz.prog (w.alloc (.cells #[.int .i64 r.kind, .int .u8 r.letter, .int .i64 r.left, .int .i64 r.right, .int .i64 r.times] 82 (0, 0))).drew = .ok (.tuple #[.int .i64 ((j : Int) + 1), .bool true]) (w.alloc (.cells #[.int .i64 r.kind, .int .u8 r.letter, .int .i64 r.left, .int .i64 r.right, .int .i64 r.times] 82 (0, 0))).drew :=
  run_lookup_some r j _ ((alloc_lt _ _ _ lm).trans hS.mp) hj
 clear hj hS
 go_enter Tryz.func57, Tryz.ntmps57
 go_wp2_with fail
 refine region_still (by kernel_rfl) (by kernel_rfl) ?_
 iterate 11 still_step
 refine wpStill_nil ?_
 clear hl
 go_wp2_with fail
 go_ret2
 exact ⟨rfl, ((Fr0.refl w).alloc _).drew⟩
set_option maxRecDepth 100000 in
set_option maxHeartbeats 400000 in
theorem st_find_none {w : World} {p mb : Nat} {most : Int} {sv : Value} {L : List Ent} (hS : St w p mb most sv L) (r : Rl) (hj : ruleIdx r L = none) (hr : (L.length : Int) < most) :
    Calls Tryz.prog 57 #[.pointer (some ⟨p, 0, none⟩), .agg #[.int .i64 r.kind, .int .u8 r.letter, .int .i64 r.left, .int .i64 r.right, .int .i64 r.times]] w fun e w' => e = .returned (.tuple #[.int .i64 0, .nilIface]) ∧ Fr0 w w' := by
 obtain ⟨c0, c1, c2, f, l⟩ := cells3 hS.ptr
 have lm := lt_of_block hS.mp
 obtain ⟨a, cap, rfl⟩ := hS.form
 have hl : (Instr.lookup 97 (.map (some mb)) (.agg #[.int .i64 r.kind, .int .u8 r.letter, .int .i64 r.left, .int .i64 r.right, .int .i64 r.times]) true).run Tryz.prog (w.alloc (.cells #[.int .i64 r.kind, .int .u8 r.letter, .int .i64 r.left, .int .i64 r.right, .int .i64 r.times] 82 (0, 0))).drew = .ok (.tuple #[.int .i64 0, .bool false]) (w.alloc (.cells #[.int .i64 r.kind, .int .u8 r.letter, .int .i64 r.left, .int .i64 r.right, .int .i64 r.times] 82 (0, 0))).drew :=
  run_lookup_none r _ ((alloc_lt _ _ _ lm).trans hS.mp) hj
 clear hj hS
 go_enter Tryz.func57, Tryz.ntmps57
 go_wp2_with fail
 refine region_still (by kernel_rfl) (by kernel_rfl) ?_
 iterate 11 still_step
 refine wpStill_nil ?_
 clear hl
 go_wp2_with fail
 refine region_still (by kernel_rfl) (by kernel_rfl) ?_
 iterate 10 still_step
 refine wpStill_nil ?_
 go_wp2_with fail
 go_ret2
 exact ⟨rfl, ((Fr0.refl w).alloc _).drew.drew⟩
set_option maxRecDepth 100000 in
set_option maxHeartbeats 400000 in
theorem st_New (w : World) :
    Calls Tryz.prog 15 #[.int .i64 1048576] w fun e w' => e = .returned (.pointer (some ⟨w.heap.size + 1, 0, none⟩)) ∧ Fr0 w w' ∧ St w' (w.heap.size + 1) w.heap.size 1048576 (.slice none 0 0) [] ∧ w'.heap.size = w.heap.size + 2 := by
 have hmm := @run_makeMap Tryz.prog
 go_enter Tryz.func15, Tryz.ntmps15
 go_wp2_with fail
 refine (len_Clip _ _ _ _).mono ?_
 rintro e w' ⟨rfl, rfl⟩
 go_wp2_with fail
 go_ret
 refine ⟨rfl, ((Fr0.refl w).alloc _).alloc _, ⟨alloc2_1 _ _ _, alloc2_0 _ _ _, World.ownsRow_nil _ _ _ _, by simp⟩, by simp⟩
end Go.Proofs.YtgldjpldldknoaaGreatDoor

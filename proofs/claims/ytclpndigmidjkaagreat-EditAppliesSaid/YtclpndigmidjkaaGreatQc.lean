/- The state of a store, and the walks of its functions that only read. -/
import Derived.Test.YtclpndigmidjkaaGreatQa
import Derived.Test.YtclpndigmidjkaaGreatQb
import Derived.Deep.RegionLaw
import Derived.BigRegion
set_option linter.unusedSimpArgs false
set_option linter.unusedVariables false
namespace Go.Proofs.YtclpndigmidjkaaGreat
open Go.RowKit

/-- The value of an entry. -/
@[reducible] def Ent.V (e : Ent) : Value := .agg #[.int .i64 e.rule.kind, .int .u8 e.rule.letter, .int .i64 e.rule.left, .int .i64 e.rule.right, .int .i64 e.rule.times,
  .int .i64 e.wt.len, .int .i64 e.wt.lines, .int .i64 e.wt.head, .int .i64 e.wt.tail, .int .u64 e.wt.val, .int .u64 e.wt.scale, .int .i64 e.depth, .bool e.even]
@[reducible] def Wt.V (t : Wt) : Value := .agg #[.int .i64 t.len, .int .i64 t.lines, .int .i64 t.head, .int .i64 t.tail, .int .u64 t.val, .int .u64 t.scale]

/-- Block p is a store with the rules L; its map is block mb, its slice the value sv. -/
structure St (w : World) (p mb : Nat) (most : Int) (sv : Value) (L : List Ent) : Prop where
  ptr : w.heap[p]? = some (.cells #[.int .i64 most, sv, .map (some mb)] 121 (0, 0))
  mp : w.heap[mb]? = some (.map (entriesFrom 0 L).toArray L.length)
  own : w.ownsRow 0 183 13 sv L.length (entCells L)
  big : L.length ≤ 1048576

theorem St.kept {S : Nat → Prop} {w w' : World} {p mb : Nat} {most : Int} {sv : Value} {L : List Ent} (h : St w p mb most sv L) (hf : Fr S w w') (h1 : ¬ S p) (h2 : ¬ S mb) (h3 : ∀ k, sv.ownBlock = some k → ¬ S k) : St w' p mb most sv L :=
  ⟨hf.kept h.ptr h1, hf.kept h.mp h2, hf.owns h.own h3, h.big⟩

theorem St.kept0 {w w' : World} {p mb : Nat} {most : Int} {sv : Value} {L : List Ent} (h : St w p mb most sv L) (hf : Fr0 w w') : St w' p mb most sv L :=
  ⟨hf.kept h.ptr, hf.kept h.mp, hf.owns h.own, h.big⟩

theorem St.form {w : World} {p mb : Nat} {most : Int} {sv : Value} {L : List Ent} (h : St w p mb most sv L) : ∃ a cap, sv = .slice a L.length cap := by
  rcases h.own.2 with ⟨h1, h2⟩ | ⟨g, cap, cur, h1, _⟩
  · exact ⟨none, 0, by rw [h1, h2]⟩
  · exact ⟨_, cap, h1⟩

theorem cells3 {w : World} {b : Nat} {x0 x1 x2 : Value} {t : TypeId} (h : w.heap[b]? = some (.cells #[x0, x1, x2] t (0, 0))) :
    w.cell? ⟨b, 0, none⟩ = some x0 ∧ w.cell? ⟨b, 1, none⟩ = some x1 ∧ w.cell? ⟨b, 2, none⟩ = some x2 ∧ (∀ o, w.frozen? ⟨b, o, none⟩ = false) ∧ b < w.heap.size :=
  ⟨by rw [cell_of_block h]; rfl, by rw [cell_of_block h]; rfl, by rw [cell_of_block h]; rfl, fun o => frozen_of_block h o, lt_of_block h⟩

set_option maxHeartbeats 400000 in
theorem st_known (p n cap : Nat) (a : Option Addr) (id : Int) (w : World) (hp : w.cell? ⟨p, 1, none⟩ = some (.slice a n cap)) (b : Bool) (hb : b = (decide (0 ≤ id) && decide (id ≤ n))) :
    Calls Tryz.prog 94 #[.pointer (some ⟨p, 0, none⟩), .int .i64 id] w fun e w' => e = .returned (.bool b) ∧ w = w' := by
  have HB := Lib.hid hb
  clear hb
  by_cases h0 : 0 ≤ id
  · go_enter Tryz.func94, Tryz.ntmps94
    go_wp2
    go_ret
    exact ⟨by rw [HB.out]; simp [h0], rfl⟩
  · have hd : decide (0 ≤ id) = false := by simpa using h0
    go_enter Tryz.func94, Tryz.ntmps94
    go_wp2
    go_ret
    exact ⟨by rw [HB.out]; simp [hd], rfl⟩

theorem st_known_yes {w : World} {p mb : Nat} {most : Int} {sv : Value} {L : List Ent} (hS : St w p mb most sv L) (id : Int) (h : isKnown L id) :
    Calls Tryz.prog 94 #[.pointer (some ⟨p, 0, none⟩), .int .i64 id] w fun e w' => e = .returned (.bool true) ∧ w = w' := by
  obtain ⟨a, cap, rfl⟩ := hS.form
  exact st_known p L.length cap a id w (cells3 hS.ptr).2.1 true (by simp [h.1, h.2])

theorem st_known_no {w : World} {p mb : Nat} {most : Int} {sv : Value} {L : List Ent} (hS : St w p mb most sv L) (id : Int) (h : ¬ isKnown L id) :
    Calls Tryz.prog 94 #[.pointer (some ⟨p, 0, none⟩), .int .i64 id] w fun e w' => e = .returned (.bool false) ∧ w = w' := by
  obtain ⟨a, cap, rfl⟩ := hS.form
  refine st_known p L.length cap a id w (cells3 hS.ptr).2.1 false ?_
  unfold isKnown at h
  symm
  rw [← Bool.not_eq_true, Bool.and_eq_true, decide_eq_true_eq, decide_eq_true_eq]
  exact h

set_option maxHeartbeats 400000 in
theorem st_at_cell (p lb n cap k : Nat) (id : Int) (x : Ent) (w : World) (hid : id = (k : Int) + 1) (hk : k < n) (hn : n ≤ 1048576)
    (hp : w.cell? ⟨p, 1, none⟩ = some (.slice (some ⟨lb, 0, none⟩) n cap))
    (h0 : w.cell? ⟨lb, k * 13, none⟩ = some (.int .i64 x.rule.kind))
    (h1 : w.cell? ⟨lb, k * 13 + 1, none⟩ = some (.int .u8 x.rule.letter))
    (h2 : w.cell? ⟨lb, k * 13 + 2, none⟩ = some (.int .i64 x.rule.left))
    (h3 : w.cell? ⟨lb, k * 13 + 3, none⟩ = some (.int .i64 x.rule.right))
    (h4 : w.cell? ⟨lb, k * 13 + 4, none⟩ = some (.int .i64 x.rule.times))
    (h5 : w.cell? ⟨lb, k * 13 + 5, none⟩ = some (.int .i64 x.wt.len))
    (h6 : w.cell? ⟨lb, k * 13 + 6, none⟩ = some (.int .i64 x.wt.lines))
    (h7 : w.cell? ⟨lb, k * 13 + 7, none⟩ = some (.int .i64 x.wt.head))
    (h8 : w.cell? ⟨lb, k * 13 + 8, none⟩ = some (.int .i64 x.wt.tail))
    (h9 : w.cell? ⟨lb, k * 13 + 9, none⟩ = some (.int .u64 x.wt.val))
    (h10 : w.cell? ⟨lb, k * 13 + 10, none⟩ = some (.int .u64 x.wt.scale))
    (h11 : w.cell? ⟨lb, k * 13 + 11, none⟩ = some (.int .i64 x.depth))
    (h12 : w.cell? ⟨lb, k * 13 + 12, none⟩ = some (.bool x.even)) :
    Calls Tryz.prog 95 #[.pointer (some ⟨p, 0, none⟩), .int .i64 id] w fun e w' => e = .returned x.V ∧ Fr0 w w' := by
  subst hid
  have lp := World.block_lt_of_cell? w _ hp
  have ll := World.block_lt_of_cell? w _ h0
  go_enter Tryz.func95, Tryz.ntmps95
  go_wp2
  exact bodyPost_ret (v := x.V) (by simp [results, Tryz.results95, go_sem]) rfl ⟨rfl, (Fr0.refl w).alloc _⟩

set_option maxHeartbeats 400000 in
theorem st_at_zero (p : Nat) (w : World) :
    Calls Tryz.prog 95 #[.pointer (some ⟨p, 0, none⟩), .int .i64 0] w fun e w' => e = .returned (.agg #[.int .i64 0, .int .u8 0, .int .i64 0, .int .i64 0, .int .i64 0, .int .i64 0, .int .i64 0, .int .i64 0, .int .i64 0, .int .u64 0, .int .u64 1, .int .i64 0, .bool true]) ∧ Fr0 w w' := by
  go_enter Tryz.func95, Tryz.ntmps95
  go_wp2_with fail
  refine (wt_Unit _).mono ?_
  rintro e w1 ⟨rfl, hf⟩
  obtain ⟨hc, hz⟩ := hf.cells
  have hs := hf.size'
  simp at hs
  go_wp2_with fail
  exact bodyPost_ret (v := .agg #[.int .i64 0, .int .u8 0, .int .i64 0, .int .i64 0, .int .i64 0, .int .i64 0, .int .i64 0, .int .i64 0, .int .i64 0, .int .u64 0, .int .u64 1, .int .i64 0, .bool true]) (by simp [results, Tryz.results95, go_sem, hc, hz]) rfl
    ⟨rfl, by (repeat' (first | (with_reducible refine Fr0.setCell ?_ _ _ ?_) | (with_reducible refine Fr0.trans ?_ hf) | (with_reducible exact Fr0.alloc (Fr0.refl _) _))) <;> first | omega | (dsimp only; omega)⟩

theorem owned_ent {w : World} {p mb : Nat} {most : Int} {sv : Value} {L : List Ent} (hS : St w p mb most sv L) {k : Nat} {x : Ent} (hx : L[k]? = some x) :
    ∃ lb cap, sv = .slice (some ⟨lb, 0, none⟩) L.length cap ∧ ∀ j u, x.vals[j]? = some u → w.cell? ⟨lb, k * 13 + j, none⟩ = some u := by
  have hlt : k < L.length := (List.getElem?_eq_some_iff.1 hx).1
  obtain ⟨lb, cap, hsv, _, _⟩ := hS.own.form (by omega)
  refine ⟨lb, cap, hsv, fun j u hu => ?_⟩
  have hj : j < 13 := by have := (List.getElem?_eq_some_iff.1 hu).1; simpa [Ent.vals] using this
  have h := hS.own
  rw [hsv] at h
  refine owns_cell h _ _ ?_
  rw [entCells, flat_get Ent.vals 13 L (fun _ _ => rfl) k j hj x hx]
  exact hu

theorem st_at {w : World} {p mb : Nat} {most : Int} {sv : Value} {L : List Ent} (hS : St w p mb most sv L) (id : Int) (h : isKnown L id) :
    Calls Tryz.prog 95 #[.pointer (some ⟨p, 0, none⟩), .int .i64 id] w fun e w' => e = .returned (.agg #[.int .i64 (entAt L id).rule.kind, .int .u8 (entAt L id).rule.letter, .int .i64 (entAt L id).rule.left, .int .i64 (entAt L id).rule.right, .int .i64 (entAt L id).rule.times, .int .i64 (entAt L id).wt.len, .int .i64 (entAt L id).wt.lines, .int .i64 (entAt L id).wt.head, .int .i64 (entAt L id).wt.tail, .int .u64 (entAt L id).wt.val, .int .u64 (entAt L id).wt.scale, .int .i64 (entAt L id).depth, .bool (entAt L id).even]) ∧ Fr0 w w' := by
  by_cases h0 : id = 0
  · subst h0
    exact st_at_zero p w
  · obtain ⟨h1, h2⟩ := h
    obtain ⟨k, hk⟩ : ∃ k : Nat, id = (k : Int) + 1 := ⟨(id - 1).toNat, by omega⟩
    subst hk
    have hlt : k < L.length := by omega
    obtain ⟨lb, cap, rfl, hc⟩ := owned_ent hS (List.getElem?_eq_getElem hlt)
    have he : entAt L ((k : Int) + 1) = L[k] := by
      unfold entAt
      rw [if_neg (by omega), show ((k : Int) + 1 - 1).toNat = k by omega, List.getD_eq_getElem?_getD, List.getElem?_eq_getElem hlt]
      rfl
    rw [he]
    exact st_at_cell p lb L.length cap k _ L[k] w rfl hlt hS.big (cells3 hS.ptr).2.1 (hc 0 _ rfl) (hc 1 _ rfl) (hc 2 _ rfl) (hc 3 _ rfl) (hc 4 _ rfl) (hc 5 _ rfl) (hc 6 _ rfl) (hc 7 _ rfl) (hc 8 _ rfl) (hc 9 _ rfl) (hc 10 _ rfl) (hc 11 _ rfl) (hc 12 _ rfl)

end Go.Proofs.YtclpndigmidjkaaGreat

/- The walks of Weight, Depth, Even, Len, and of avl.Balanced, patch.unknown, patch.size. -/
set_option linter.unusedSimpArgs false
set_option linter.unusedVariables false
namespace Go.Proofs.YtclpndigmidjkaaGreat
open Go.RowKit

@[go_sem] theorem fld_ent0 (c0 c1 c2 c3 c4 c5 c6 c7 c8 c9 c10 c11 c12 : Value) (w : World) : (Instr.field 183 (.agg #[c0, c1, c2, c3, c4, c5, c6, c7, c8, c9, c10, c11, c12]) 0).run Tryz.prog w = .ok (.agg #[c0, c1, c2, c3, c4]) w := by kernel_rfl
@[go_sem] theorem fld_ent1 (c0 c1 c2 c3 c4 c5 c6 c7 c8 c9 c10 c11 c12 : Value) (w : World) : (Instr.field 183 (.agg #[c0, c1, c2, c3, c4, c5, c6, c7, c8, c9, c10, c11, c12]) 1).run Tryz.prog w = .ok (.agg #[c5, c6, c7, c8, c9, c10]) w := by kernel_rfl
@[go_sem] theorem fld_ent2 (c0 c1 c2 c3 c4 c5 c6 c7 c8 c9 c10 c11 c12 : Value) (w : World) : (Instr.field 183 (.agg #[c0, c1, c2, c3, c4, c5, c6, c7, c8, c9, c10, c11, c12]) 2).run Tryz.prog w = .ok c11 w := by kernel_rfl
@[go_sem] theorem fld_ent3 (c0 c1 c2 c3 c4 c5 c6 c7 c8 c9 c10 c11 c12 : Value) (w : World) : (Instr.field 183 (.agg #[c0, c1, c2, c3, c4, c5, c6, c7, c8, c9, c10, c11, c12]) 3).run Tryz.prog w = .ok c12 w := by kernel_rfl
@[go_sem] theorem fld_wt0 (c5 c6 c7 c8 c9 c10 : Value) (w : World) : (Instr.field 157 (.agg #[c5, c6, c7, c8, c9, c10]) 0).run Tryz.prog w = .ok c5 w := by kernel_rfl

set_option maxRecDepth 100000 in
set_option maxHeartbeats 400000 in
theorem st_Weight {w : World} {p mb : Nat} {most : Int} {sv : Value} {L : List Ent} (hS : St w p mb most sv L) (id : Int) (h : isKnown L id) :
    Calls Tryz.prog 71 #[.pointer (some ⟨p, 0, none⟩), .int .i64 id] w fun e w' => e = .returned (.tuple #[.agg #[.int .i64 (entAt L id).wt.len, .int .i64 (entAt L id).wt.lines, .int .i64 (entAt L id).wt.head, .int .i64 (entAt L id).wt.tail, .int .u64 (entAt L id).wt.val, .int .u64 (entAt L id).wt.scale], .nilIface]) ∧ Fr0 w w' := by
  have c1 := fun w' (hf : Fr0 w w') => st_known_yes (hS.kept0 hf) id h
  have c2 := fun w' (hf : Fr0 w w') => st_at (hS.kept0 hf) id h
  have C1 := Lib.hid c1
  have C2 := Lib.hid c2
  clear c1 c2 hS
  generalize entAt L id = x at *
  go_enter Tryz.func71, Tryz.ntmps71
  go_wp2_with fail
  refine (C1.out _ ((Fr0.refl w).alloc _)).mono ?_
  rintro e w' ⟨rfl, rfl⟩
  go_wp2_with fail
  refine (C2.out _ ((Fr0.refl w).alloc _)).mono ?_
  rintro e w1 ⟨rfl, hf⟩
  obtain ⟨hc, hz⟩ := hf.cells
  have hs := hf.size'
  simp at hs
  go_wp2_with fail
  exact bodyPost_ret (v := .tuple #[.agg #[.int .i64 x.wt.len, .int .i64 x.wt.lines, .int .i64 x.wt.head, .int .i64 x.wt.tail, .int .u64 x.wt.val, .int .u64 x.wt.scale], .nilIface]) (by simp [results, Tryz.results71, go_sem, hc, hz]) rfl
    ⟨rfl, by (repeat' (first | (with_reducible refine Fr0.setCell ?_ _ _ ?_) | (with_reducible refine Fr0.trans ?_ hf) | (with_reducible exact Fr0.alloc (Fr0.refl _) _))) <;> first | omega | (dsimp only; omega)⟩

set_option maxRecDepth 100000 in
set_option maxHeartbeats 400000 in
theorem st_Weight_no {w : World} {p mb : Nat} {most : Int} {sv : Value} {L : List Ent} (hS : St w p mb most sv L) (id : Int) (h : ¬ isKnown L id) :
    Calls Tryz.prog 71 #[.pointer (some ⟨p, 0, none⟩), .int .i64 id] w fun e w' => e = .returned (.tuple #[.agg #[.int .i64 0, .int .i64 0, .int .i64 0, .int .i64 0, .int .u64 0, .int .u64 0], .iface 52 (.int .i64 1)]) ∧ Fr0 w w' := by
  have c1 := fun w' (hf : Fr0 w w') => st_known_no (hS.kept0 hf) id h
  have C1 := Lib.hid c1
  clear c1 hS h
  go_enter Tryz.func71, Tryz.ntmps71
  go_wp2_with fail
  refine (C1.out _ ((Fr0.refl w).alloc _)).mono ?_
  rintro e w' ⟨rfl, rfl⟩
  go_wp2_with fail
  exact bodyPost_ret (v := .tuple #[.agg #[.int .i64 0, .int .i64 0, .int .i64 0, .int .i64 0, .int .u64 0, .int .u64 0], .iface 52 (.int .i64 1)]) (by simp [results, Tryz.results71, go_sem]) rfl
    ⟨rfl, (Fr0.refl w).alloc _⟩

set_option maxRecDepth 100000 in
set_option maxHeartbeats 400000 in
theorem st_Depth {w : World} {p mb : Nat} {most : Int} {sv : Value} {L : List Ent} (hS : St w p mb most sv L) (id : Int) (h : isKnown L id) :
    Calls Tryz.prog 81 #[.pointer (some ⟨p, 0, none⟩), .int .i64 id] w fun e w' => e = .returned (.tuple #[.int .i64 (entAt L id).depth, .nilIface]) ∧ Fr0 w w' := by
  have c1 := st_known_yes hS id h
  have c2 := st_at hS id h
  have C1 := Lib.hid c1
  have C2 := Lib.hid c2
  clear c1 c2 hS
  generalize entAt L id = x at *
  go_enter Tryz.func81, Tryz.ntmps81
  go_wp2_with fail
  refine C1.out.mono ?_
  rintro e w' ⟨rfl, rfl⟩
  go_wp2_with fail
  refine C2.out.mono ?_
  rintro e w1 ⟨rfl, hf⟩
  go_wp2_with fail
  go_ret2
  exact ⟨rfl, hf⟩

set_option maxRecDepth 100000 in
set_option maxHeartbeats 400000 in
theorem st_Depth_no {w : World} {p mb : Nat} {most : Int} {sv : Value} {L : List Ent} (hS : St w p mb most sv L) (id : Int) (h : ¬ isKnown L id) :
    Calls Tryz.prog 81 #[.pointer (some ⟨p, 0, none⟩), .int .i64 id] w fun e w' => e = .returned (.tuple #[.int .i64 0, .iface 52 (.int .i64 1)]) ∧ Fr0 w w' := by
  have c1 := st_known_no hS id h
  have C1 := Lib.hid c1
  clear c1 hS h
  go_enter Tryz.func81, Tryz.ntmps81
  go_wp2_with fail
  refine C1.out.mono ?_
  rintro e w' ⟨rfl, rfl⟩
  go_wp2_with fail
  go_ret2
  exact ⟨rfl, Fr0.refl _⟩

set_option maxRecDepth 100000 in
set_option maxHeartbeats 400000 in
theorem st_Even {w : World} {p mb : Nat} {most : Int} {sv : Value} {L : List Ent} (hS : St w p mb most sv L) (id : Int) (h : isKnown L id) :
    Calls Tryz.prog 118 #[.pointer (some ⟨p, 0, none⟩), .int .i64 id] w fun e w' => e = .returned (.bool (entAt L id).even) ∧ Fr0 w w' := by
  have c1 := st_known_yes hS id h
  have c2 := st_at hS id h
  have C1 := Lib.hid c1
  have C2 := Lib.hid c2
  clear c1 c2 hS
  generalize entAt L id = x at *
  go_enter Tryz.func118, Tryz.ntmps118
  go_wp2_with fail
  refine C1.out.mono ?_
  rintro e w' ⟨rfl, rfl⟩
  go_wp2_with fail
  refine C2.out.mono ?_
  rintro e w1 ⟨rfl, hf⟩
  go_wp2_with fail
  go_ret
  exact ⟨by simp, hf⟩

set_option maxRecDepth 100000 in
set_option maxHeartbeats 400000 in
theorem st_Len {w : World} {p mb : Nat} {most : Int} {sv : Value} {L : List Ent} (hS : St w p mb most sv L) :
    Calls Tryz.prog 16 #[.pointer (some ⟨p, 0, none⟩)] w fun e w' => e = .returned (.int .i64 L.length) ∧ w = w' := by
  obtain ⟨a, cap, rfl⟩ := hS.form
  obtain ⟨c0, c1, c2, f, l⟩ := cells3 hS.ptr
  clear hS
  go_enter Tryz.func16, Tryz.ntmps16
  go_wp2_with fail
  go_ret
  exact ⟨rfl, rfl⟩

set_option maxRecDepth 100000 in
set_option maxHeartbeats 400000 in
theorem avl_Balanced {w : World} {p mb : Nat} {most : Int} {sv : Value} {L : List Ent} (hS : St w p mb most sv L) (id : Int) (h : isKnown L id) :
    Calls Tryz.prog 90 #[.pointer (some ⟨p, 0, none⟩), .int .i64 id] w fun e w' => e = .returned (.tuple #[.bool (entAt L id).even, .nilIface]) ∧ Fr0 w w' := by
  have c1 := st_Depth hS id h
  have c2 := fun w' (hf : Fr0 w w') => st_Even (hS.kept0 hf) id h
  have C1 := Lib.hid c1
  have C2 := Lib.hid c2
  clear c1 c2 hS
  generalize entAt L id = x at *
  go_enter Tryz.func90, Tryz.ntmps90
  go_wp2_with fail
  refine C1.out.mono ?_
  rintro e w1 ⟨rfl, hf1⟩
  go_wp2_with fail
  refine (C2.out _ hf1).mono ?_
  rintro e w2 ⟨rfl, hf2⟩
  go_wp2_with fail
  go_ret2
  exact ⟨rfl, hf1.trans hf2⟩

set_option maxRecDepth 100000 in
set_option maxHeartbeats 400000 in
theorem avl_Balanced_no {w : World} {p mb : Nat} {most : Int} {sv : Value} {L : List Ent} (hS : St w p mb most sv L) (id : Int) (h : ¬ isKnown L id) :
    Calls Tryz.prog 90 #[.pointer (some ⟨p, 0, none⟩), .int .i64 id] w fun e w' => e = .returned (.tuple #[.bool false, .iface 52 (.int .i64 1)]) ∧ Fr0 w w' := by
  have c1 := st_Depth_no hS id h
  have C1 := Lib.hid c1
  clear c1 hS h
  go_enter Tryz.func90, Tryz.ntmps90
  go_wp2_with fail
  refine C1.out.mono ?_
  rintro e w1 ⟨rfl, hf1⟩
  go_wp2_with fail
  go_ret2
  exact ⟨rfl, hf1⟩

set_option maxRecDepth 100000 in
set_option maxHeartbeats 400000 in
theorem patch_unknown {w : World} {p mb : Nat} {most : Int} {sv : Value} {L : List Ent} (hS : St w p mb most sv L) (id : Int) (b : Bool) (hb : b = (decide (id < 0) || decide ((L.length : Int) < id))) :
    Calls Tryz.prog 61 #[.pointer (some ⟨p, 0, none⟩), .int .i64 id] w fun e w' => e = .returned (.bool b) ∧ w = w' := by
  have c1 := st_Len hS
  have C1 := Lib.hid c1
  have HB := Lib.hid hb
  clear c1 hS hb
  by_cases h0 : id < 0
  · go_enter Tryz.func61, Tryz.ntmps61
    go_wp2_with fail
    go_ret
    exact ⟨by rw [HB.out]; simp [h0], rfl⟩
  · have hd : decide (id < 0) = false := by simpa using h0
    go_enter Tryz.func61, Tryz.ntmps61
    go_wp2_with fail
    refine C1.out.mono ?_
    rintro e w1 ⟨rfl, rfl⟩
    go_wp2_with fail
    go_ret
    exact ⟨by rw [HB.out]; simp [hd], rfl⟩

set_option maxRecDepth 100000 in
set_option maxHeartbeats 400000 in
theorem patch_size {w : World} {p mb : Nat} {most : Int} {sv : Value} {L : List Ent} (hS : St w p mb most sv L) (id : Int) (h : isKnown L id) :
    Calls Tryz.prog 64 #[.pointer (some ⟨p, 0, none⟩), .int .i64 id] w fun e w' => e = .returned (.tuple #[.int .i64 (entAt L id).wt.len, .nilIface]) ∧ Fr0 w w' := by
  have c1 := st_Weight hS id h
  have C1 := Lib.hid c1
  clear c1 hS h
  generalize entAt L id = x at *
  go_enter Tryz.func64, Tryz.ntmps64
  go_wp2_with fail
  refine C1.out.mono ?_
  rintro e w1 ⟨rfl, hf1⟩
  go_wp2_with fail
  go_ret2
  exact ⟨rfl, hf1.alloc _⟩

end Go.Proofs.YtclpndigmidjkaaGreat

/- The walks of find, add, New. -/
set_option linter.unusedSimpArgs false
set_option linter.unusedVariables false
namespace Go.Proofs.YtclpndigmidjkaaGreat
open Go.RowKit

set_option maxRecDepth 100000 in
set_option maxHeartbeats 400000 in
theorem st_find_some {w : World} {p mb : Nat} {most : Int} {sv : Value} {L : List Ent} (hS : St w p mb most sv L) (r : Rl) (j : Nat) (hj : ruleIdx r L = some j) :
    Calls Tryz.prog 91 #[.pointer (some ⟨p, 0, none⟩), .agg #[.int .i64 r.kind, .int .u8 r.letter, .int .i64 r.left, .int .i64 r.right, .int .i64 r.times]] w fun e w' => e = .returned (.tuple #[.int .i64 ((j : Int) + 1), .nilIface]) ∧ Fr0 w w' := by
  obtain ⟨c0, c1, c2, f, l⟩ := cells3 hS.ptr
  have lm := lt_of_block hS.mp
  have hl : (Instr.lookup 118 (.map (some mb)) (.agg #[.int .i64 r.kind, .int .u8 r.letter, .int .i64 r.left, .int .i64 r.right, .int .i64 r.times]) true).run Tryz.prog (w.alloc (.cells #[.int .i64 r.kind, .int .u8 r.letter, .int .i64 r.left, .int .i64 r.right, .int .i64 r.times] 132 (0, 0))).drew = .ok (.tuple #[.int .i64 ((j : Int) + 1), .bool true]) (w.alloc (.cells #[.int .i64 r.kind, .int .u8 r.letter, .int .i64 r.left, .int .i64 r.right, .int .i64 r.times] 132 (0, 0))).drew :=
    run_lookup_some r j _ ((alloc_lt _ _ _ lm).trans hS.mp) hj
  clear hj hS
  go_enter Tryz.func91, Tryz.ntmps91
  go_wp2_with fail
  refine region_still (by kernel_rfl) (by kernel_rfl) ?_
  iterate 11 still_step
  refine wpStill_nil ?_
  clear hl
  go_wp2_with fail
  go_ret2
  exact ⟨rfl, ((Fr0.refl w).alloc _).drew⟩

set_option maxRecDepth 100000 in
set_option maxHeartbeats 400000 in
theorem st_find_none {w : World} {p mb : Nat} {most : Int} {sv : Value} {L : List Ent} (hS : St w p mb most sv L) (r : Rl) (hj : ruleIdx r L = none) (hr : (L.length : Int) < most) :
    Calls Tryz.prog 91 #[.pointer (some ⟨p, 0, none⟩), .agg #[.int .i64 r.kind, .int .u8 r.letter, .int .i64 r.left, .int .i64 r.right, .int .i64 r.times]] w fun e w' => e = .returned (.tuple #[.int .i64 0, .nilIface]) ∧ Fr0 w w' := by
  obtain ⟨c0, c1, c2, f, l⟩ := cells3 hS.ptr
  have lm := lt_of_block hS.mp
  obtain ⟨a, cap, rfl⟩ := hS.form
  have hl : (Instr.lookup 118 (.map (some mb)) (.agg #[.int .i64 r.kind, .int .u8 r.letter, .int .i64 r.left, .int .i64 r.right, .int .i64 r.times]) true).run Tryz.prog (w.alloc (.cells #[.int .i64 r.kind, .int .u8 r.letter, .int .i64 r.left, .int .i64 r.right, .int .i64 r.times] 132 (0, 0))).drew = .ok (.tuple #[.int .i64 0, .bool false]) (w.alloc (.cells #[.int .i64 r.kind, .int .u8 r.letter, .int .i64 r.left, .int .i64 r.right, .int .i64 r.times] 132 (0, 0))).drew :=
    run_lookup_none r _ ((alloc_lt _ _ _ lm).trans hS.mp) hj
  clear hj hS
  go_enter Tryz.func91, Tryz.ntmps91
  go_wp2_with fail
  refine region_still (by kernel_rfl) (by kernel_rfl) ?_
  iterate 11 still_step
  refine wpStill_nil ?_
  clear hl
  go_wp2_with fail
  refine region_still (by kernel_rfl) (by kernel_rfl) ?_
  iterate 10 still_step
  refine wpStill_nil ?_
  go_wp2_with fail
  go_ret2
  exact ⟨rfl, ((Fr0.refl w).alloc _).drew.drew⟩

set_option maxRecDepth 100000 in
set_option maxHeartbeats 400000 in
theorem st_find_full {w : World} {p mb : Nat} {most : Int} {sv : Value} {L : List Ent} (hS : St w p mb most sv L) (r : Rl) (hj : ruleIdx r L = none) (hr : most ≤ (L.length : Int)) :
    Calls Tryz.prog 91 #[.pointer (some ⟨p, 0, none⟩), .agg #[.int .i64 r.kind, .int .u8 r.letter, .int .i64 r.left, .int .i64 r.right, .int .i64 r.times]] w fun e w' => e = .returned (.tuple #[.int .i64 0, .iface 52 (.int .i64 3)]) ∧ Fr0 w w' := by
  obtain ⟨c0, c1, c2, f, l⟩ := cells3 hS.ptr
  have lm := lt_of_block hS.mp
  obtain ⟨a, cap, rfl⟩ := hS.form
  have hl : (Instr.lookup 118 (.map (some mb)) (.agg #[.int .i64 r.kind, .int .u8 r.letter, .int .i64 r.left, .int .i64 r.right, .int .i64 r.times]) true).run Tryz.prog (w.alloc (.cells #[.int .i64 r.kind, .int .u8 r.letter, .int .i64 r.left, .int .i64 r.right, .int .i64 r.times] 132 (0, 0))).drew = .ok (.tuple #[.int .i64 0, .bool false]) (w.alloc (.cells #[.int .i64 r.kind, .int .u8 r.letter, .int .i64 r.left, .int .i64 r.right, .int .i64 r.times] 132 (0, 0))).drew :=
    run_lookup_none r _ ((alloc_lt _ _ _ lm).trans hS.mp) hj
  clear hj hS
  go_enter Tryz.func91, Tryz.ntmps91
  go_wp2_with fail
  refine region_still (by kernel_rfl) (by kernel_rfl) ?_
  iterate 11 still_step
  refine wpStill_nil ?_
  clear hl
  go_wp2_with fail
  refine region_still (by kernel_rfl) (by kernel_rfl) ?_
  iterate 10 still_step
  refine wpStill_nil ?_
  go_wp2_with fail
  go_ret2
  exact ⟨rfl, ((Fr0.refl w).alloc _).drew.drew⟩

set_option maxRecDepth 100000 in
set_option maxHeartbeats 400000 in
theorem st_New (w : World) :
    Calls Tryz.prog 10 #[.int .i64 1048576] w fun e w' => e = .returned (.pointer (some ⟨w.heap.size + 1, 0, none⟩)) ∧ Fr0 w w' ∧ St w' (w.heap.size + 1) w.heap.size 1048576 (.slice none 0 0) [] ∧ w'.heap.size = w.heap.size + 2 := by
  have hmm := @run_makeMap Tryz.prog
  go_enter Tryz.func10, Tryz.ntmps10
  go_wp2_with fail
  refine (len_Clip _ _ _ _).mono ?_
  rintro e w' ⟨rfl, rfl⟩
  go_wp2_with fail
  go_ret
  refine ⟨rfl, ((Fr0.refl w).alloc _).alloc _, ⟨alloc2_1 _ _ _, alloc2_0 _ _ _, World.ownsRow_nil _ _ _ _, by simp⟩, by simp⟩

end Go.Proofs.YtclpndigmidjkaaGreat

/- The walk of add. -/
set_option linter.unusedSimpArgs false
set_option linter.unusedVariables false
namespace Go.Proofs.YtclpndigmidjkaaGreat
open Go.RowKit

theorem info_entry : (Tryz.prog.info? 183).map (fun i => (i.zero, i.size, i.bytes)) = some (some (.agg #[.int .i64 0, .int .u8 0, .int .i64 0, .int .i64 0, .int .i64 0, .int .i64 0, .int .i64 0, .int .i64 0, .int .i64 0, .int .u64 0, .int .u64 0, .int .i64 0, .bool false]), 13, 104) := by kernel_rfl

theorem owns_set_other {w : World} {base : Nat} {e : TypeId} {size n : Nat} {v : Value} {xs : List Value} (h : w.ownsRow base e size v n xs) (p : Addr) (u : Value) (hne : v.ownBlock ≠ some p.block) : (w.setCell p u).ownsRow base e size v n xs := by
  refine ⟨h.1, ?_⟩
  rcases h.2 with h1 | ⟨g, cap, cur, rfl, hb, hg, r⟩
  · exact .inl h1
  · refine .inr ⟨g, cap, cur, rfl, hb, ?_, r⟩
    rw [setCell_other _ _ (fun e => hne (by simp [Value.ownBlock, e]))]
    exact hg

/-- One block set. -/
def setB (w : World) (b : Nat) (o : Obj) : World := { w with heap := w.heap.setIfInBounds b o }
theorem setB_same {w : World} {b : Nat} {o : Obj} (h : b < w.heap.size) : (setB w b o).heap[b]? = some o := by simp [setB, h]
theorem setB_other {w : World} {b c : Nat} {o : Obj} (h : c ≠ b) : (setB w b o).heap[c]? = w.heap[c]? := by simp [setB, Array.getElem?_setIfInBounds, Ne.symm h]
theorem setB_size {w : World} {b : Nat} {o : Obj} : (setB w b o).heap.size = w.heap.size := by simp [setB]
theorem Fr.setB {S : Nat → Prop} {a w : World} (h : Fr S a w) (b : Nat) (o : Obj) (hb : b < a.heap.size → S b) : Fr S a (setB w b o) :=
  ⟨h.os, h.tape, h.output, by rw [setB_size]; exact h.size, fun i hi hn => by
    by_cases e : i = b
    · subst e; exact absurd (hb hi) hn
    · rw [setB_other e]; exact h.block i hi hn⟩
theorem owns_setB {w : World} {base : Nat} {e : TypeId} {size n : Nat} {v : Value} {xs : List Value} (h : w.ownsRow base e size v n xs) (b : Nat) (o : Obj) (hne : v.ownBlock ≠ some b) : (setB w b o).ownsRow base e size v n xs := by
  refine ⟨h.1, ?_⟩
  rcases h.2 with h1 | ⟨g, cap, cur, rfl, hb, hg, r⟩
  · exact .inl h1
  · exact .inr ⟨g, cap, cur, rfl, hb, (setB_other (fun e => hne (by simp [Value.ownBlock, e]))).trans hg, r⟩

theorem add_meet {W w1 : World} {o : Obj} {sv : Value} {g cap n p mb : Nat} {most : Int} {xs : List Value}
    (hptr : W.heap[p]? = some (.cells #[.int .i64 most, sv, .map (some mb)] 121 (0, 0)))
    (hown1 : w1.ownsRow 0 183 13 (.slice (some ⟨g, 0, none⟩) (n + 1) cap) (n + 1) xs)
    (hgrow : World.grownBy (W.alloc o).drew w1 sv.ownBlock) (hat : sv.ownBlock = some g ∨ g = W.heap.size + 1) (hag : sv.ownBlock ≠ some p) :
    (w1.setCell ⟨p, 1, none⟩ (.slice (some ⟨g, 0, none⟩) (n + 1) cap)).heap[p]? = some (.cells #[.int .i64 most, .slice (some ⟨g, 0, none⟩) (n + 1) cap, .map (some mb)] 121 (0, 0)) ∧
     (w1.setCell ⟨p, 1, none⟩ (.slice (some ⟨g, 0, none⟩) (n + 1) cap)).ownsRow 0 183 13 (.slice (some ⟨g, 0, none⟩) (n + 1) cap) (n + 1) xs ∧
     Fr (fun k => k = p ∨ sv.ownBlock = some k) W (w1.setCell ⟨p, 1, none⟩ (.slice (some ⟨g, 0, none⟩) (n + 1) cap)) ∧ (sv.ownBlock = some g ∨ W.heap.size ≤ g) := by
  have lp := lt_of_block hptr
  have h1 : w1.heap[p]? = some (.cells #[.int .i64 most, sv, .map (some mb)] 121 (0, 0)) :=
    (hgrow.block p (by simp; omega) (fun e => hag e.symm)).trans ((alloc_lt W o p lp).trans hptr)
  have hg : g ≠ p := by
    rintro rfl
    rcases hown1.2 with ⟨h2, _⟩ | ⟨g', cap', cur, h2, _, hg, _⟩
    · cases h2
    · simp at h2
      rw [← h2.1, h1] at hg
      simp at hg
  refine ⟨setCell_block h1 1 _, owns_set_other hown1 _ _ (by simpa [Value.ownBlock] using hg), ?_, ?_⟩
  · exact ((((Fr.refl _ W).alloc o).drew).grown hgrow (fun k hk _ => .inr hk)).setCell _ _ (fun _ => .inl rfl)
  · rcases hat with h | h
    · exact .inl h
    · exact .inr (by omega)

set_option maxRecDepth 100000 in
set_option maxHeartbeats 2000000 in
theorem st_add {w : World} {p mb : Nat} {most : Int} {sv : Value} {L : List Ent} (hS : St w p mb most sv L) (x : Ent) (hj : ruleIdx x.rule L = none) (hL : L.length < 1048576) :
    Calls Tryz.prog 92 #[.pointer (some ⟨p, 0, none⟩), .agg #[.int .i64 x.rule.kind, .int .u8 x.rule.letter, .int .i64 x.rule.left, .int .i64 x.rule.right, .int .i64 x.rule.times, .int .i64 x.wt.len, .int .i64 x.wt.lines, .int .i64 x.wt.head, .int .i64 x.wt.tail, .int .u64 x.wt.val, .int .u64 x.wt.scale, .int .i64 x.depth, .bool x.even]] w
      fun e w' => e = .returned (.int .i64 ((L.length : Int) + 1)) ∧ ∃ sv', St w' p mb most sv' (L ++ [x]) ∧ Fr (fun k => k = p ∨ k = mb ∨ sv.ownBlock = some k) w w' ∧ (∀ k, sv'.ownBlock = some k → sv.ownBlock = some k ∨ w.heap.size ≤ k) := by
  obtain ⟨i0, hi0, hz0, hz1, hz2⟩ := info_parts info_entry
  have hu : Tryz.prog.underlying 119 = some (.slice 183) := Tryz.underlying119
  go_enter Tryz.func92, Tryz.ntmps92
  go_upto_region 1 with fail
  have hfb : Fr0 w (w.alloc (.cells #[.int .i64 x.rule.kind, .int .u8 x.rule.letter, .int .i64 x.rule.left, .int .i64 x.rule.right, .int .i64 x.rule.times, .int .i64 x.wt.len, .int .i64 x.wt.lines, .int .i64 x.wt.head, .int .i64 x.wt.tail, .int .u64 x.wt.val, .int .u64 x.wt.scale, .int .i64 x.depth, .bool x.even] 183 (0, 0))) := (Fr0.refl w).alloc _
  have hE : (w.alloc (.cells #[.int .i64 x.rule.kind, .int .u8 x.rule.letter, .int .i64 x.rule.left, .int .i64 x.rule.right, .int .i64 x.rule.times, .int .i64 x.wt.len, .int .i64 x.wt.lines, .int .i64 x.wt.head, .int .i64 x.wt.tail, .int .u64 x.wt.val, .int .u64 x.wt.scale, .int .i64 x.depth, .bool x.even] 183 (0, 0))).heap[w.heap.size]? = some (.cells #[.int .i64 x.rule.kind, .int .u8 x.rule.letter, .int .i64 x.rule.left, .int .i64 x.rule.right, .int .i64 x.rule.times, .int .i64 x.wt.len, .int .i64 x.wt.lines, .int .i64 x.wt.head, .int .i64 x.wt.tail, .int .u64 x.wt.val, .int .u64 x.wt.scale, .int .i64 x.depth, .bool x.even] 183 (0, 0)) := alloc_at _ _ _ rfl
  have hS1 := hS.kept0 hfb
  have hz : (w.alloc (.cells #[.int .i64 x.rule.kind, .int .u8 x.rule.letter, .int .i64 x.rule.left, .int .i64 x.rule.right, .int .i64 x.rule.times, .int .i64 x.wt.len, .int .i64 x.wt.lines, .int .i64 x.wt.head, .int .i64 x.wt.tail, .int .u64 x.wt.val, .int .u64 x.wt.scale, .int .i64 x.depth, .bool x.even] 183 (0, 0))).heap.size = w.heap.size + 1 := by simp
  generalize w.alloc (.cells #[.int .i64 x.rule.kind, .int .u8 x.rule.letter, .int .i64 x.rule.left, .int .i64 x.rule.right, .int .i64 x.rule.times, .int .i64 x.wt.len, .int .i64 x.wt.lines, .int .i64 x.wt.head, .int .i64 x.wt.tail, .int .u64 x.wt.val, .int .u64 x.wt.scale, .int .i64 x.depth, .bool x.even] 183 (0, 0)) = W at *
  generalize hN : w.heap.size = E at *
  have HN := Lib.hid hN
  clear hN
  have HZ := Lib.hid hz
  have lz : E < W.heap.size := by omega
  clear hz
  have lp := lt_of_block hS1.ptr
  have hpE : p ≠ E := by
    have := lt_of_block hS.ptr
    rw [HN.out] at this
    omega
  have hmE : mb ≠ E := by
    have := lt_of_block hS.mp
    rw [HN.out] at this
    omega
  have hpm : p ≠ mb := by
    intro e
    have h1 := hS1.ptr
    rw [e, hS1.mp] at h1
    cases h1
  obtain ⟨c0, c1, c2, f, l⟩ := cells3 hS1.ptr
  have hown := hS1.own
  have hbp : ∀ k, sv.ownBlock = some k → k ≠ p ∧ k ≠ mb ∧ k ≠ E ∧ k < E := by
    intro k hk
    have lk := (hS.own.lt k hk).2
    rw [HN.out] at lk
    rcases hS1.own.2 with ⟨h1, h2⟩ | ⟨g, cap, cur, h1, _, hg, _⟩
    · rw [h1] at hk; simp [Value.ownBlock] at hk
    · rw [h1] at hk
      simp [Value.ownBlock] at hk
      subst hk
      refine ⟨fun e => ?_, fun e => ?_, by omega, lk⟩
      · rw [e, hS1.ptr] at hg; simp at hg
      · rw [e, hS1.mp] at hg; simp at hg
  have hag : sv.ownBlock ≠ some p := fun e => (hbp p e).1 rfl
  have haE : sv.ownBlock ≠ some E := fun e => (hbp E e).2.2.1 rfl
  have ham : sv.ownBlock ≠ some mb := fun e => (hbp mb e).2.1 rfl
  have hn63 : L.length + 1 ≤ maxLen := by unfold maxLen; omega
  have hby : (L.length + 1) * 104 ≤ 140737488355328 := by omega
  have d0 : W.cell? ⟨E, 0, none⟩ = some (.int .i64 x.rule.kind) := by rw [cell_of_block hE]; rfl
  have d1 : W.cell? ⟨E, 1, none⟩ = some (.int .u8 x.rule.letter) := by rw [cell_of_block hE]; rfl
  have d2 : W.cell? ⟨E, 2, none⟩ = some (.int .i64 x.rule.left) := by rw [cell_of_block hE]; rfl
  have d3 : W.cell? ⟨E, 3, none⟩ = some (.int .i64 x.rule.right) := by rw [cell_of_block hE]; rfl
  have d4 : W.cell? ⟨E, 4, none⟩ = some (.int .i64 x.rule.times) := by rw [cell_of_block hE]; rfl
  have d5 : W.cell? ⟨E, 5, none⟩ = some (.int .i64 x.wt.len) := by rw [cell_of_block hE]; rfl
  have d6 : W.cell? ⟨E, 6, none⟩ = some (.int .i64 x.wt.lines) := by rw [cell_of_block hE]; rfl
  have d7 : W.cell? ⟨E, 7, none⟩ = some (.int .i64 x.wt.head) := by rw [cell_of_block hE]; rfl
  have d8 : W.cell? ⟨E, 8, none⟩ = some (.int .i64 x.wt.tail) := by rw [cell_of_block hE]; rfl
  have d9 : W.cell? ⟨E, 9, none⟩ = some (.int .u64 x.wt.val) := by rw [cell_of_block hE]; rfl
  have d10 : W.cell? ⟨E, 10, none⟩ = some (.int .u64 x.wt.scale) := by rw [cell_of_block hE]; rfl
  have d11 : W.cell? ⟨E, 11, none⟩ = some (.int .i64 x.depth) := by rw [cell_of_block hE]; rfl
  have d12 : W.cell? ⟨E, 12, none⟩ = some (.bool x.even) := by rw [cell_of_block hE]; rfl
  go_cut [] (fun wx => ∃ g cap, wx.heap[p]? = some (.cells #[.int .i64 most, .slice (some ⟨g, 0, none⟩) (L.length + 1) cap, .map (some mb)] 121 (0, 0)) ∧
     wx.ownsRow 0 183 13 (.slice (some ⟨g, 0, none⟩) (L.length + 1) cap) (L.length + 1) (entCells L ++ x.vals) ∧ Fr (fun k => k = p ∨ sv.ownBlock = some k) W wx ∧ (sv.ownBlock = some g ∨ W.heap.size ≤ g))
  case first =>
    have HP := Lib.hid hS1.ptr
    clear hS hS1 hE HZ hpE hmE hpm hbp hj hfb
    go_region_law ((refine step_append_lies _ (by rfl) _ _ _ (by rfl) 0 183 i0 _ 13 104 hu hi0 hz0 hz1 hz2 rfl (by omega) sv L.length (entCells L) (by rfl) ((hown.alloc _).drew) ⟨W.heap.size, 0, none⟩ 1 1 [.int .i64 x.rule.kind, .int .u8 x.rule.letter, .int .i64 x.rule.left, .int .i64 x.rule.right, .int .i64 x.rule.times, .int .i64 x.wt.len, .int .i64 x.wt.lines, .int .i64 x.wt.head, .int .i64 x.wt.tail, .int .u64 x.wt.val, .int .u64 x.wt.scale, .int .i64 x.depth, .bool x.even] (by rfl) (by rfl) (World.news_of_block (cs := #[.int .i64 x.rule.kind, .int .u8 x.rule.letter, .int .i64 x.rule.left, .int .i64 x.rule.right, .int .i64 x.rule.times, .int .i64 x.wt.len, .int .i64 x.wt.lines, .int .i64 x.wt.head, .int .i64 x.wt.tail, .int .u64 x.wt.val, .int .u64 x.wt.scale, .int .i64 x.depth, .bool x.even]) (t := 183) (fr := (0, 0)) (heap_alloc_new W _)) (by simp [Value.oneCell']) (by omega) hn63 hby (by omega) (W.heap.size + 1) (by simp) ?_; intro g cap w1 hown1 hgrow hat hlt; have e1 : w1.cell? ⟨p, 1, none⟩ = some sv := (hgrow.cell_far _ (by simp; omega) (Ne.symm hag)).trans ((cellA W _ p 1 lp).trans c1); have e2 : w1.frozen? ⟨p, 1, none⟩ = false := (hgrow.frozen_far _ (by simp; omega) (Ne.symm hag)).trans ((World.frozen?_of_block (alloc_lt W _ p lp)).trans (f 1))))
    all_goals
      go_wp2_with fail
      go_meet
      exact ⟨g, cap, add_meet HP.out hown1 hgrow hat hag⟩
  case rest =>
    obtain ⟨g, cap, hp2, ho2, hf2, hg2⟩ := hcut
    have hE2 := hf2.kept hE (by
      rintro (h | h)
      · exact hpE h.symm
      · exact haE h)
    have hm2 := hf2.kept hS1.mp (by
      rintro (h | h)
      · exact hpm h.symm
      · exact ham h)
    have hgm : g ≠ mb := by
      intro e
      rcases ho2.2 with ⟨h2, _⟩ | ⟨g', cap', cur, h2, _, hg, _⟩
      · cases h2
      · simp at h2
        rw [← h2.1, e, hm2] at hg
        simp at hg
    have HU := Lib.hid (run_update x wc.drew hm2 hj ((L.length : Int) + 1) rfl)
    have HS := Lib.hid hS
    have HS1 := Lib.hid hS1
    have lm2 := lt_of_block hm2
    clear c0 c1 c2 f l d0 d1 d2 d3 d4 d5 d6 d7 d8 d9 d10 d11 d12 hS hS1 hown lp hE hj
    obtain ⟨c0, c1, c2, f, l⟩ := cells3 hp2
    have d0 : wc.cell? ⟨E, 0, none⟩ = some (.int .i64 x.rule.kind) := by rw [cell_of_block hE2]; rfl
    have d1 : wc.cell? ⟨E, 1, none⟩ = some (.int .u8 x.rule.letter) := by rw [cell_of_block hE2]; rfl
    have d2 : wc.cell? ⟨E, 2, none⟩ = some (.int .i64 x.rule.left) := by rw [cell_of_block hE2]; rfl
    have d3 : wc.cell? ⟨E, 3, none⟩ = some (.int .i64 x.rule.right) := by rw [cell_of_block hE2]; rfl
    have d4 : wc.cell? ⟨E, 4, none⟩ = some (.int .i64 x.rule.times) := by rw [cell_of_block hE2]; rfl
    have HM2 := Lib.hid hm2
    have HP2 := Lib.hid hp2
    clear hm2 hp2 hE2
    go_wp2_with fail
    refine region_still_tail 7 (by kernel_rfl) (by kernel_rfl) ?_
    simp only [List.take_succ_cons, List.take_zero, List.drop_succ_cons, List.drop_zero]
    iterate 7 still_step
    refine wpStill_nil ?_
    have hu2 : (Instr.mapUpdate 118 (.map (some mb)) (.agg #[.int .i64 x.rule.kind, .int .u8 x.rule.letter, .int .i64 x.rule.left, .int .i64 x.rule.right, .int .i64 x.rule.times]) (.int .i64 ((L.length : Int) + 1))).run Tryz.prog wc.drew = .ok () (setB wc.drew mb (.map (entriesFrom 0 (L ++ [x])).toArray (L ++ [x]).length)) := HU.out
    generalize hWW : setB wc.drew mb (.map (entriesFrom 0 (L ++ [x])).toArray (L ++ [x]).length) = WW at *
    have HWW := Lib.hid hWW
    clear hWW
    go_wp2_with fail
    go_ret
    refine ⟨rfl, .slice (some ⟨g, 0, none⟩) (L.length + 1) cap, ?_, ?_, ?_⟩
    · rw [← HWW.out]
      refine ⟨(setB_other hpm).trans HP2.out, setB_same lm2, ?_, by simp; omega⟩
      have := owns_setB (w := wc.drew) ho2 mb (.map (entriesFrom 0 (L ++ [x])).toArray (L ++ [x]).length) (by simpa [Value.ownBlock] using hgm)
      simpa [entCells] using this
    · rw [← HWW.out]
      have h1 : Fr (fun k => k = p ∨ k = mb ∨ sv.ownBlock = some k) w wc := Fr.trans hfb.fr hf2 (fun i hi _ => hi.elim .inl (fun h => .inr (.inr h)))
      exact (Fr.drew h1).setB mb _ (fun _ => .inr (.inl rfl))
    · intro k hk
      simp [Value.ownBlock] at hk
      subst hk
      have := HN.out
      have := HZ.out
      rcases hg2 with h | h
      · exact .inl h
      · exact .inr (by omega)

end Go.Proofs.YtclpndigmidjkaaGreat

/- The walk of Letter. -/
set_option linter.unusedSimpArgs false
set_option linter.unusedVariables false
namespace Go.Proofs.YtclpndigmidjkaaGreat
open Go.RowKit

/-- From w to w' the store has come to L', and nothing else that was there has changed. -/
def Stepped (w w' : World) (p mb : Nat) (most : Int) (sv : Value) (L' : List Ent) : Prop :=
  ∃ sv', St w' p mb most sv' L' ∧ Fr (fun k => k = p ∨ k = mb ∨ sv.ownBlock = some k) w w' ∧ (∀ k, sv'.ownBlock = some k → sv.ownBlock = some k ∨ w.heap.size ≤ k)

theorem Stepped.same {w w' : World} {p mb : Nat} {most : Int} {sv : Value} {L : List Ent} (h : St w p mb most sv L) (hf : Fr0 w w') : Stepped w w' p mb most sv L :=
  ⟨sv, h.kept0 hf, hf.fr, fun _ h => .inl h⟩

/-- Behind calls that only made memory. -/
theorem Stepped.before {w w1 w' : World} {p mb : Nat} {most : Int} {sv : Value} {L' : List Ent} (h0 : Fr0 w w1) (h : Stepped w1 w' p mb most sv L') : Stepped w w' p mb most sv L' := by
  obtain ⟨sv', h1, h2, h3⟩ := h
  exact ⟨sv', h1, Fr.trans h0.fr h2 (fun _ h _ => h), fun k hk => (h3 k hk).elim .inl (fun h => .inr (by have := h0.size'; omega))⟩

theorem Stepped.after {w w1 w' : World} {p mb : Nat} {most : Int} {sv : Value} {L' : List Ent} (h : Stepped w w1 p mb most sv L') (h0 : Fr0 w1 w') : Stepped w w' p mb most sv L' := by
  obtain ⟨sv', h1, h2, h3⟩ := h
  exact ⟨sv', h1.kept0 h0, Fr.trans h2 h0 (fun _ h _ => h.elim), h3⟩

theorem Stepped.trans {w w1 w' : World} {p mb : Nat} {most : Int} {sv : Value} {L1 L2 : List Ent} (h : Stepped w w1 p mb most sv L1) (k : ∀ sv1, St w1 p mb most sv1 L1 → Stepped w1 w' p mb most sv1 L2) : Stepped w w' p mb most sv L2 := by
  obtain ⟨sv1, h1, h2, h3⟩ := h
  obtain ⟨sv2, k1, k2, k3⟩ := k sv1 h1
  refine ⟨sv2, k1, Fr.trans h2 k2 ?_, ?_⟩
  · rintro i (hi | hi | hi) hlt
    · exact .inl hi
    · exact .inr (.inl hi)
    · exact (h3 i hi).elim (fun h => .inr (.inr h)) (fun h => by omega)
  · intro i hi
    rcases k3 i hi with h | h
    · exact h3 i h
    · exact .inr (by have := h2.size; omega)

theorem st_add' {w : World} {p mb : Nat} {most : Int} {sv : Value} {L : List Ent} (hS : St w p mb most sv L) (x : Ent) (hj : ruleIdx x.rule L = none) (hL : L.length < 1048576) :
    Calls Tryz.prog 92 #[.pointer (some ⟨p, 0, none⟩), .agg #[.int .i64 x.rule.kind, .int .u8 x.rule.letter, .int .i64 x.rule.left, .int .i64 x.rule.right, .int .i64 x.rule.times, .int .i64 x.wt.len, .int .i64 x.wt.lines, .int .i64 x.wt.head, .int .i64 x.wt.tail, .int .u64 x.wt.val, .int .u64 x.wt.scale, .int .i64 x.depth, .bool x.even]] w
      fun e w' => e = .returned (.int .i64 ((L.length : Int) + 1)) ∧ Stepped w w' p mb most sv (L ++ [x]) :=
  st_add hS x hj hL

set_option maxRecDepth 100000 in
set_option maxHeartbeats 1000000 in
theorem st_Letter_some {w : World} {p mb : Nat} {most : Int} {sv : Value} {L : List Ent} (hS : St w p mb most sv L) (b : Int) (h0 : 0 ≤ b) (h1 : b < 256) (j : Nat) (hj : ruleIdx ⟨1, b, 0, 0, 0⟩ L = some j) :
    Calls Tryz.prog 55 #[.pointer (some ⟨p, 0, none⟩), .int .u8 b] w fun e w' => e = .returned (.tuple #[.int .i64 ((j : Int) + 1), .nilIface]) ∧ Fr0 w w' := by
  have CF := Lib.hid (fun w' (hf : Fr0 w w') => st_find_some (hS.kept0 hf) ⟨1, b, 0, 0, 0⟩ j hj)
  clear hS hj
  go_enter Tryz.func55, Tryz.ntmps55
  go_wp2_with fail
  refine (CF.out _ ((Fr0.refl w).alloc _)).mono ?_
  rintro e w1 ⟨rfl, hf1⟩
  have hj1 : ((j : Int) + 1 != 0) = true := by simp; omega
  go_wp2_with fail
  go_ret2
  exact ⟨rfl, ((Fr0.refl w).alloc _).trans hf1⟩

set_option maxRecDepth 100000 in
set_option maxHeartbeats 1000000 in
theorem st_Letter_none {w : World} {p mb : Nat} {most : Int} {sv : Value} {L : List Ent} (hS : St w p mb most sv L) (b : Int) (h0 : 0 ≤ b) (h1 : b < 256) (hj : ruleIdx (letterEnt b).rule L = none) (hm : (L.length : Int) < most) (hL : L.length < 1048576) :
    Calls Tryz.prog 55 #[.pointer (some ⟨p, 0, none⟩), .int .u8 b] w fun e w' => e = .returned (.tuple #[.int .i64 ((L.length : Int) + 1), .nilIface]) ∧ Stepped w w' p mb most sv (L ++ [letterEnt b]) := by
  have CF := Lib.hid (fun w' (hf : Fr0 w w') => st_find_none (hS.kept0 hf) ⟨1, b, 0, 0, 0⟩ hj hm)
  have cl : ∀ w', Calls Tryz.prog 93 #[.int .u8 b] w' fun e w'' => e = .returned (.agg #[.int .i64 (Wt.letter b).len, .int .i64 (Wt.letter b).lines, .int .i64 (Wt.letter b).head, .int .i64 (Wt.letter b).tail, .int .u64 (Wt.letter b).val, .int .u64 (Wt.letter b).scale]) ∧ Fr0 w' w'' := fun w' => wt_Letter b w' h0 h1
  have hx : letterEnt b = ⟨⟨1, b, 0, 0, 0⟩, Wt.letter b, 0, true⟩ := rfl
  rw [hx]
  generalize Wt.letter b = t at *
  have CL := Lib.hid cl
  have CA := Lib.hid (fun w' (hf : Fr0 w w') => st_add' (hS.kept0 hf) ⟨⟨1, b, 0, 0, 0⟩, t, 0, true⟩ hj hL)
  have HS := Lib.hid hS
  have lp := lt_of_block hS.ptr
  have lm := lt_of_block hS.mp
  have lv : ∀ k, sv.ownBlock = some k → k < w.heap.size := fun k hk => (hS.own.lt k hk).2
  have LV := Lib.hid lv
  clear hS hj lv cl hx
  go_enter Tryz.func55, Tryz.ntmps55
  go_wp2_with fail
  refine (CF.out _ ((Fr0.refl w).alloc _)).mono ?_
  rintro e w1 ⟨rfl, hf1⟩
  have hr1 := hf1.kept (b := w.heap.size) (alloc_at _ _ _ rfl)
  have hW1 : Fr0 w w1 := ((Fr0.refl w).alloc _).trans hf1
  have d0 : w1.cell? ⟨w.heap.size, 0, none⟩ = some (.int .i64 1) := by rw [cell_of_block hr1]; rfl
  have d1 : w1.cell? ⟨w.heap.size, 1, none⟩ = some (.int .u8 b) := by rw [cell_of_block hr1]; rfl
  have d2 : w1.cell? ⟨w.heap.size, 2, none⟩ = some (.int .i64 0) := by rw [cell_of_block hr1]; rfl
  have d3 : w1.cell? ⟨w.heap.size, 3, none⟩ = some (.int .i64 0) := by rw [cell_of_block hr1]; rfl
  have d4 : w1.cell? ⟨w.heap.size, 4, none⟩ = some (.int .i64 0) := by rw [cell_of_block hr1]; rfl
  have l1 := lt_of_block hr1
  clear hf1 CF hr1
  go_wp2_with fail
  generalize hE : w.heap.size = E at *
  have HE := Lib.hid hE
  clear hE
  go_region_held3 (fun w' => w'.cell? ⟨E, 0, none⟩ = some (.int .i64 1) ∧ w'.cell? ⟨E, 1, none⟩ = some (.int .u8 b) ∧ w'.cell? ⟨E, 2, none⟩ = some (.int .i64 0) ∧ w'.cell? ⟨E, 3, none⟩ = some (.int .i64 0) ∧ w'.cell? ⟨E, 4, none⟩ = some (.int .i64 0))
    (first | (go_keep; done) | ((try dsimp only); (repeat' apply And.intro); all_goals (go_split_ands; first | (rw [hfL.cell _ _ (by simp; omega)]; assumption) | (rw [Fr.cell hfA _ (by dsimp only; omega) hnE]; assumption))))
    (first | (go_at_call 93; refine (CL.out _).mono ?_; rintro e w2 ⟨rfl, hfL⟩; have l2 : E < w2.heap.size := (by have hq := hfL.size'; (try simp at hq); omega); have hW2 : Fr0 w w2 := hW1.drew.trans hfL) | (go_at_call 92; refine (CA.out _ hW2).mono ?_; rintro e w3 ⟨rfl, hst⟩; obtain ⟨sv3, hS3, hfA, hv3⟩ := hst; have hnE : ¬ (E = p ∨ E = mb ∨ sv.ownBlock = some E) := (by rintro (h | h | h); omega; omega; have := LV.out E h; omega)))
  go_wp2_with fail
  go_ret2
  exact ⟨rfl, (show Stepped w2 w3 p mb most sv _ from ⟨sv3, hS3, hfA, hv3⟩).before hW2⟩

end Go.Proofs.YtclpndigmidjkaaGreat

/- The walk of Pair. -/
set_option linter.unusedSimpArgs false
set_option linter.unusedVariables false
namespace Go.Proofs.YtclpndigmidjkaaGreat
open Go.RowKit

theorem st_Letter {w : World} {p mb : Nat} {most : Int} {sv : Value} {L : List Ent} (hS : St w p mb most sv L) (b : Int) (h0 : 0 ≤ b) (h1 : b < 256) (hm : (L.length : Int) < most) (hL : L.length < 1048576) :
    Calls Tryz.prog 55 #[.pointer (some ⟨p, 0, none⟩), .int .u8 b] w fun e w' => e = .returned (.tuple #[.int .i64 (addI L (letterEnt b)), .nilIface]) ∧ Stepped w w' p mb most sv (addL L (letterEnt b)) := by
  cases hj : ruleIdx (letterEnt b).rule L with
  | some j =>
    rw [addI_some hj, addL_some hj]
    exact (st_Letter_some hS b h0 h1 j hj).mono fun e w' ⟨h1, h2⟩ => ⟨h1, Stepped.same hS h2⟩
  | none =>
    rw [addI_none hj, addL_none hj]
    exact st_Letter_none hS b h0 h1 hj hm hL

/-- The cells of an entry's variable. -/
theorem cells13 {w : World} {b : Nat} {x0 x1 x2 x3 x4 x5 x6 x7 x8 x9 x10 x11 x12 : Value} {t : TypeId} (h : w.heap[b]? = some (.cells #[x0, x1, x2, x3, x4, x5, x6, x7, x8, x9, x10, x11, x12] t (0, 0))) :
    w.cell? ⟨b, 5, none⟩ = some x5 ∧ w.cell? ⟨b, 6, none⟩ = some x6 ∧ w.cell? ⟨b, 7, none⟩ = some x7 ∧ w.cell? ⟨b, 8, none⟩ = some x8 ∧ w.cell? ⟨b, 9, none⟩ = some x9 ∧ w.cell? ⟨b, 10, none⟩ = some x10 ∧ w.cell? ⟨b, 11, none⟩ = some x11 ∧ w.cell? ⟨b, 12, none⟩ = some x12 ∧ b < w.heap.size :=
  ⟨by rw [cell_of_block h]; rfl, by rw [cell_of_block h]; rfl, by rw [cell_of_block h]; rfl, by rw [cell_of_block h]; rfl, by rw [cell_of_block h]; rfl, by rw [cell_of_block h]; rfl, by rw [cell_of_block h]; rfl, by rw [cell_of_block h]; rfl, lt_of_block h⟩

theorem cells5 {w : World} {b : Nat} {x0 x1 x2 x3 x4 : Value} {t : TypeId} (h : w.heap[b]? = some (.cells #[x0, x1, x2, x3, x4] t (0, 0))) :
    w.cell? ⟨b, 0, none⟩ = some x0 ∧ w.cell? ⟨b, 1, none⟩ = some x1 ∧ w.cell? ⟨b, 2, none⟩ = some x2 ∧ w.cell? ⟨b, 3, none⟩ = some x3 ∧ w.cell? ⟨b, 4, none⟩ = some x4 ∧ b < w.heap.size :=
  ⟨by rw [cell_of_block h]; rfl, by rw [cell_of_block h]; rfl, by rw [cell_of_block h]; rfl, by rw [cell_of_block h]; rfl, by rw [cell_of_block h]; rfl, lt_of_block h⟩

set_option maxRecDepth 100000 in
set_option maxHeartbeats 1000000 in
theorem st_Pair_some {w : World} {p mb : Nat} {most : Int} {sv : Value} {L : List Ent} (hS : St w p mb most sv L) (hO : SOk L) (l r : Int) (hl : isKnown L l) (hr : isKnown L r) (l0 : l ≠ 0) (r0 : r ≠ 0)
    (hlen : (entAt L l).wt.len + (entAt L r).wt.len ≤ 1152921504606846976) (j : Nat) (hj : ruleIdx ⟨2, 0, l, r, 0⟩ L = some j) :
    Calls Tryz.prog 57 #[.pointer (some ⟨p, 0, none⟩), .int .i64 l, .int .i64 r] w fun e w' => e = .returned (.tuple #[.int .i64 ((j : Int) + 1), .nilIface]) ∧ Fr0 w w' := by
  have CF := Lib.hid (fun w' (hf : Fr0 w w') => st_find_some (hS.kept0 hf) ⟨2, 0, l, r, 0⟩ j hj)
  have K1 := Lib.hid (fun w' (hf : Fr0 w w') => st_known_yes (hS.kept0 hf) l hl)
  have K2 := Lib.hid (fun w' (hf : Fr0 w w') => st_known_yes (hS.kept0 hf) r hr)
  have a1 := fun w' (hf : Fr0 w w') => st_at (hS.kept0 hf) l hl
  have a2 := fun w' (hf : Fr0 w w') => st_at (hS.kept0 hf) r hr
  have q1 := (hO.at l hl).1.len0
  have q2 := (hO.at r hr).1.len0
  generalize entAt L l = x at *
  generalize entAt L r = y at *
  have A1 := Lib.hid a1
  have A2 := Lib.hid a2
  have hl0 : (l == 0) = false := by simpa using l0
  have hr0 : (r == 0) = false := by simpa using r0
  clear hS hj a1 a2 hO l0 r0 hl hr
  go_enter Tryz.func57, Tryz.ntmps57
  go_wp2_with fail
  refine (K1.out _ (Fr0.refl w)).mono ?_
  rintro e w' ⟨rfl, rfl⟩
  go_wp2_with fail
  refine (K2.out _ (Fr0.refl w)).mono ?_
  rintro e w' ⟨rfl, rfl⟩
  go_wp2_with fail
  refine (A1.out _ (Fr0.refl w)).mono ?_
  rintro e w1 ⟨rfl, hf1⟩
  go_wp2_with fail
  refine (A2.out _ hf1).mono ?_
  rintro e w2 ⟨rfl, hf2⟩
  have hW2 := hf1.trans hf2
  clear hf1 hf2
  go_wp2_with fail
  refine (len_Add_ok _ _ _ q1 q2 hlen).mono ?_
  rintro e w' ⟨rfl, rfl⟩
  go_wp2_with fail
  refine (CF.out _ (((hW2.alloc _).alloc _).alloc _)).mono ?_
  rintro e w4 ⟨rfl, hf4⟩
  have hj1 : ((j : Int) + 1 != 0) = true := by simp; omega
  go_wp2_with fail
  go_ret2
  exact ⟨rfl, (((hW2.alloc _).alloc _).alloc _).trans hf4⟩

end Go.Proofs.YtclpndigmidjkaaGreat

/- The walk of Pair where the rule is new. -/
set_option linter.unusedSimpArgs false
set_option linter.unusedVariables false
namespace Go.Proofs.YtclpndigmidjkaaGreat
open Go.RowKit

set_option maxRecDepth 100000 in
set_option maxHeartbeats 2000000 in
theorem st_Pair_none {w : World} {p mb : Nat} {most : Int} {sv : Value} {L : List Ent} (hS : St w p mb most sv L) (hO : SOk L) (l r : Int) (hl : isKnown L l) (hr : isKnown L r) (l0 : l ≠ 0) (r0 : r ≠ 0)
    (hlen : (entAt L l).wt.len + (entAt L r).wt.len ≤ 1152921504606846976) (hj : ruleIdx (pairEnt L l r).rule L = none) (hm : (L.length : Int) < most) (hL : L.length < 1048576) :
    Calls Tryz.prog 57 #[.pointer (some ⟨p, 0, none⟩), .int .i64 l, .int .i64 r] w fun e w' => e = .returned (.tuple #[.int .i64 ((L.length : Int) + 1), .nilIface]) ∧ Stepped w w' p mb most sv (L ++ [pairEnt L l r]) := by
  have CF := Lib.hid (fun w' (hf : Fr0 w w') => st_find_none (hS.kept0 hf) ⟨2, 0, l, r, 0⟩ hj hm)
  have K1 := Lib.hid (fun w' (hf : Fr0 w w') => st_known_yes (hS.kept0 hf) l hl)
  have K2 := Lib.hid (fun w' (hf : Fr0 w w') => st_known_yes (hS.kept0 hf) r hr)
  have a1 := fun w' (hf : Fr0 w w') => st_at (hS.kept0 hf) l hl
  have a2 := fun w' (hf : Fr0 w w') => st_at (hS.kept0 hf) r hr
  obtain ⟨v1, v2, v3, v4⟩ := hO.at l hl
  obtain ⟨u1, u2, u3, u4⟩ := hO.at r hr
  have q1 := v1.len0
  have q2 := u1.len0
  have cj : ∀ w', Calls Tryz.prog 98 #[.agg #[.int .i64 (entAt L l).wt.len, .int .i64 (entAt L l).wt.lines, .int .i64 (entAt L l).wt.head, .int .i64 (entAt L l).wt.tail, .int .u64 (entAt L l).wt.val, .int .u64 (entAt L l).wt.scale],
      .agg #[.int .i64 (entAt L r).wt.len, .int .i64 (entAt L r).wt.lines, .int .i64 (entAt L r).wt.head, .int .i64 (entAt L r).wt.tail, .int .u64 (entAt L r).wt.val, .int .u64 (entAt L r).wt.scale]] w'
      fun e w'' => e = .returned (.tuple #[.agg #[.int .i64 ((entAt L l).wt.join (entAt L r).wt).len, .int .i64 ((entAt L l).wt.join (entAt L r).wt).lines, .int .i64 ((entAt L l).wt.join (entAt L r).wt).head, .int .i64 ((entAt L l).wt.join (entAt L r).wt).tail, .int .u64 ((entAt L l).wt.join (entAt L r).wt).val, .int .u64 ((entAt L l).wt.join (entAt L r).wt).scale], .nilIface]) ∧ Fr0 w' w'' :=
    fun w' => wt_Join _ _ w' v1 u1 hlen
  have ca := fun (ev : Bool) (t : Wt) (d : Int) w' (hf : Fr0 w w') => st_add' (hS.kept0 hf) ⟨⟨2, 0, l, r, 0⟩, t, d, ev⟩ hj hL
  have hx : pairEnt L l r = ⟨⟨2, 0, l, r, 0⟩, (entAt L l).wt.join (entAt L r).wt, 1 + max (entAt L l).depth (entAt L r).depth,
    (entAt L l).even && (entAt L r).even && decide (-1 ≤ (entAt L l).depth - (entAt L r).depth) && decide ((entAt L l).depth - (entAt L r).depth ≤ 1)⟩ := rfl
  rw [hx]
  have LP := lt_of_block hS.ptr
  have LM := lt_of_block hS.mp
  have lv : ∀ k, sv.ownBlock = some k → k < w.heap.size := fun k hk => (hS.own.lt k hk).2
  have LV := Lib.hid lv
  generalize (entAt L l).wt.join (entAt L r).wt = t at *
  generalize entAt L l = x at *
  generalize entAt L r = y at *
  obtain ⟨ev, hev⟩ : ∃ b, (x.even && y.even && decide (-1 ≤ x.depth - y.depth) && decide (x.depth - y.depth ≤ 1)) = b := ⟨_, rfl⟩
  rw [hev]
  have HEV := Lib.hid hev
  have A1 := Lib.hid a1
  have A2 := Lib.hid a2
  have CJ := Lib.hid cj
  have CA := Lib.hid ca
  have hl0 : (l == 0) = false := by simpa using l0
  have hr0 : (r == 0) = false := by simpa using r0
  clear hS hj a1 a2 hO l0 r0 hl hr cj ca hx hev lv v1 v4 u1 u4
  go_enter Tryz.func57, Tryz.ntmps57
  go_wp2_with fail
  refine (K1.out _ (Fr0.refl w)).mono ?_
  rintro e w' ⟨rfl, rfl⟩
  go_wp2_with fail
  refine (K2.out _ (Fr0.refl w)).mono ?_
  rintro e w' ⟨rfl, rfl⟩
  go_wp2_with fail
  refine (A1.out _ (Fr0.refl w)).mono ?_
  rintro e w1 ⟨rfl, hf1⟩
  go_wp2_with fail
  refine (A2.out _ hf1).mono ?_
  rintro e w2 ⟨rfl, hf2⟩
  have hW2 := hf1.trans hf2
  clear hf1 hf2
  go_wp2_with fail
  refine (len_Add_ok _ _ _ q1 q2 hlen).mono ?_
  rintro e w' ⟨rfl, rfl⟩
  go_wp2_with fail
  refine (CF.out _ (((hW2.alloc _).alloc _).alloc _)).mono ?_
  rintro e w4 ⟨rfl, hf4⟩
  have hx4 := hf4.kept (alloc3_0 _ _ _ _)
  have hy4 := hf4.kept (alloc3_1 _ _ _ _)
  have hr4 := hf4.kept (alloc3_2 _ _ _ _)
  have hW4 := (((hW2.alloc _).alloc _).alloc _).trans hf4
  clear hf4 hW2 CF K1 K2 A1 A2
  generalize w2.heap.size = N at *
  clear w2
  obtain ⟨x5, x6, x7, x8, x9, x10, x11, x12, lx⟩ := cells13 hx4
  obtain ⟨y5, y6, y7, y8, y9, y10, y11, y12, ly⟩ := cells13 hy4
  obtain ⟨r1, r2, r3, r4, r5, lr⟩ := cells5 hr4
  go_wp2_with fail
  refine (CJ.out _).mono ?_
  rintro e w5 ⟨rfl, hf5⟩
  have hx5 := hf5.kept hx4
  have hy5 := hf5.kept hy4
  have hr5 := hf5.kept hr4
  have hW5 := hW4.trans hf5
  clear hf5 hW4 x5 x6 x7 x8 x9 x10 x11 x12 lx y5 y6 y7 y8 y9 y10 y11 y12 ly r1 r2 r3 r4 r5 lr hx4 hy4 hr4 CJ
  clear w4
  obtain ⟨x5, x6, x7, x8, x9, x10, x11, x12, lx⟩ := cells13 hx5
  obtain ⟨y5, y6, y7, y8, y9, y10, y11, y12, ly⟩ := cells13 hy5
  have hr5' : w5.heap[N + 1 + 1]? = some (.cells #[.int .i64 2, .int .u8 0, .int .i64 l, .int .i64 r, .int .i64 0] 132 (0, 0)) := hr5
  obtain ⟨r1, r2, r3, r4, r5, lr⟩ := cells5 hr5'
  clear hr5 hr5'
  clear x5 x6 x7 x8 x9 x10 y5 y6 y7 y8 y9 y10
  have n1 : ¬ w5.heap.size = N := by omega
  have n2 : ¬ w5.heap.size = N + 1 := by omega
  have n3 : ¬ w5.heap.size = N + 1 + 1 := by omega
  go_upto_region 21 with fail
  have fin : ∀ (b : Bool) (d : Int), b = ev → d = 1 + max x.depth y.depth → Hid (∀ w', Fr0 w w' → Calls Tryz.prog 92 #[.pointer (some ⟨p, 0, none⟩), .agg #[.int .i64 2, .int .u8 0, .int .i64 l, .int .i64 r, .int .i64 0, .int .i64 t.len, .int .i64 t.lines, .int .i64 t.head, .int .i64 t.tail, .int .u64 t.val, .int .u64 t.scale, .int .i64 d, .bool b]] w' fun e w'' => e = .returned (.int .i64 ((L.length : Int) + 1)) ∧ Stepped w' w'' p mb most sv (L ++ [⟨⟨2, 0, l, r, 0⟩, t, 1 + max x.depth y.depth, ev⟩])) :=
    fun b d hb hd => by subst hb; subst hd; exact fun w' hf => CA.out b t (1 + max x.depth y.depth) w' hf
  have FIN := Lib.hid fin
  clear CA fin
  by_cases hmax : x.depth < y.depth
  · cases hxe : x.even with
    | false =>
      rw [hxe] at x12
      have C := FIN.out false (1 + y.depth) (by rw [← HEV.out]; simp [hxe]) (by omega)
      clear FIN HEV
      go_wp2_with fail
      refine (C.out _ (hW5.alloc _)).mono ?_
      rintro e w6 ⟨rfl, hst⟩
      go_wp2_with fail
      go_ret2
      exact ⟨rfl, hst.before (hW5.alloc _)⟩
    | true =>
      rw [hxe] at x12
      cases hye : y.even with
      | false =>
        rw [hye] at y12
        have C := FIN.out false (1 + y.depth) (by rw [← HEV.out]; simp [hxe, hye]) (by omega)
        clear FIN HEV
        go_wp2_with fail
        refine (C.out _ (hW5.alloc _)).mono ?_
        rintro e w6 ⟨rfl, hst⟩
        go_wp2_with fail
        go_ret2
        exact ⟨rfl, hst.before (hW5.alloc _)⟩
      | true =>
        rw [hye] at y12
        by_cases hc1 : -1 ≤ x.depth - y.depth
        · have hc2 : x.depth - y.depth ≤ 1 := by omega
          have C := FIN.out true (1 + y.depth) (by rw [← HEV.out]; simp [hxe, hye, hc1, hc2]) (by omega)
          clear FIN HEV
          go_wp2_with fail
          refine (C.out _ (hW5.alloc _)).mono ?_
          rintro e w6 ⟨rfl, hst⟩
          go_wp2_with fail
          go_ret2
          exact ⟨rfl, hst.before (hW5.alloc _)⟩
        · have hd1 : decide (-1 ≤ x.depth - y.depth) = false := decide_eq_false hc1
          have C := FIN.out false (1 + y.depth) (by rw [← HEV.out]; simp [hxe, hye, hd1]) (by omega)
          clear FIN HEV
          go_wp2_with fail
          refine (C.out _ (hW5.alloc _)).mono ?_
          rintro e w6 ⟨rfl, hst⟩
          go_wp2_with fail
          go_ret2
          exact ⟨rfl, hst.before (hW5.alloc _)⟩
  · cases hxe : x.even with
    | false =>
      rw [hxe] at x12
      have C := FIN.out false (1 + x.depth) (by rw [← HEV.out]; simp [hxe]) (by omega)
      clear FIN HEV
      go_wp2_with fail
      refine (C.out _ (hW5.alloc _)).mono ?_
      rintro e w6 ⟨rfl, hst⟩
      go_wp2_with fail
      go_ret2
      exact ⟨rfl, hst.before (hW5.alloc _)⟩
    | true =>
      rw [hxe] at x12
      cases hye : y.even with
      | false =>
        rw [hye] at y12
        have C := FIN.out false (1 + x.depth) (by rw [← HEV.out]; simp [hxe, hye]) (by omega)
        clear FIN HEV
        go_wp2_with fail
        refine (C.out _ (hW5.alloc _)).mono ?_
        rintro e w6 ⟨rfl, hst⟩
        go_wp2_with fail
        go_ret2
        exact ⟨rfl, hst.before (hW5.alloc _)⟩
      | true =>
        rw [hye] at y12
        have hc1 : -1 ≤ x.depth - y.depth := by omega
        by_cases hc2 : x.depth - y.depth ≤ 1
        · have C := FIN.out true (1 + x.depth) (by rw [← HEV.out]; simp [hxe, hye, hc1, hc2]) (by omega)
          clear FIN HEV
          go_wp2_with fail
          refine (C.out _ (hW5.alloc _)).mono ?_
          rintro e w6 ⟨rfl, hst⟩
          go_wp2_with fail
          go_ret2
          exact ⟨rfl, hst.before (hW5.alloc _)⟩
        · have hd2 : decide (x.depth - y.depth ≤ 1) = false := decide_eq_false hc2
          have C := FIN.out false (1 + x.depth) (by rw [← HEV.out]; simp [hxe, hye, hc1, hd2]) (by omega)
          clear FIN HEV
          go_wp2_with fail
          refine (C.out _ (hW5.alloc _)).mono ?_
          rintro e w6 ⟨rfl, hst⟩
          go_wp2_with fail
          go_ret2
          exact ⟨rfl, hst.before (hW5.alloc _)⟩

end Go.Proofs.YtclpndigmidjkaaGreat

/- The walk of Pair, both cases. -/
set_option linter.unusedSimpArgs false
set_option linter.unusedVariables false
namespace Go.Proofs.YtclpndigmidjkaaGreat
open Go.RowKit

theorem st_Pair {w : World} {p mb : Nat} {most : Int} {sv : Value} {L : List Ent} (hS : St w p mb most sv L) (hO : SOk L) (l r : Int) (hl : isKnown L l) (hr : isKnown L r) (l0 : l ≠ 0) (r0 : r ≠ 0)
    (hlen : (entAt L l).wt.len + (entAt L r).wt.len ≤ 1152921504606846976) (hm : (L.length : Int) < most) (hL : L.length < 1048576) :
    Calls Tryz.prog 57 #[.pointer (some ⟨p, 0, none⟩), .int .i64 l, .int .i64 r] w fun e w' => e = .returned (.tuple #[.int .i64 (addI L (pairEnt L l r)), .nilIface]) ∧ Stepped w w' p mb most sv (addL L (pairEnt L l r)) := by
  cases hj : ruleIdx (pairEnt L l r).rule L with
  | some j =>
    rw [addI_some hj, addL_some hj]
    exact (st_Pair_some hS hO l r hl hr l0 r0 hlen j hj).mono fun e w' ⟨h1, h2⟩ => ⟨h1, Stepped.same hS h2⟩
  | none =>
    rw [addI_none hj, addL_none hj]
    exact st_Pair_none hS hO l r hl hr l0 r0 hlen hj hm hL

end Go.Proofs.YtclpndigmidjkaaGreat

/- The walks of balance.text and balance.Text. -/
set_option linter.unusedSimpArgs false
set_option linter.unusedVariables false
namespace Go.Proofs.YtclpndigmidjkaaGreat
open Go.RowKit

/-- Letters that lie in a row of bytes. -/
structure BytesAt (w : World) (bb off : Nat) (bs : List Int) : Prop where
  blk : ∃ cur fr, w.heap[bb]? = some (.cells cur 5 fr) ∧ ∀ i (h : i < bs.length), cur[off + i]? = some (.int .u8 bs[i])
  rng : ∀ x ∈ bs, 0 ≤ x ∧ x < 256

theorem BytesAt.cell {w : World} {bb off : Nat} {bs : List Int} (h : BytesAt w bb off bs) (i : Nat) (hi : i < bs.length) : w.cell? ⟨bb, off + i, none⟩ = some (.int .u8 bs[i]) := by
  obtain ⟨cur, fr, h1, h2⟩ := h.blk
  rw [cell_of_block h1]; exact h2 i hi

theorem BytesAt.take {w : World} {bb off : Nat} {bs : List Int} (h : BytesAt w bb off bs) (n : Nat) : BytesAt w bb off (bs.take n) := by
  obtain ⟨cur, fr, h1, h2⟩ := h.blk
  refine ⟨⟨cur, fr, h1, fun i hi => ?_⟩, fun x hx => h.rng x (List.mem_of_mem_take hx)⟩
  have : i < bs.length := by simp at hi; omega
  rw [h2 i this, List.getElem_take]

theorem BytesAt.drop {w : World} {bb off : Nat} {bs : List Int} (h : BytesAt w bb off bs) (n : Nat) : BytesAt w bb (off + n) (bs.drop n) := by
  obtain ⟨cur, fr, h1, h2⟩ := h.blk
  refine ⟨⟨cur, fr, h1, fun i hi => ?_⟩, fun x hx => h.rng x (List.mem_of_mem_drop hx)⟩
  have : n + i < bs.length := by simp at hi; omega
  rw [Nat.add_assoc, h2 (n + i) this, List.getElem_drop]

theorem Stepped.next {w w1 w' : World} {p mb : Nat} {most : Int} {sv sv1 : Value} {L2 : List Ent} (h2 : Fr (fun k => k = p ∨ k = mb ∨ sv.ownBlock = some k) w w1) (h3 : ∀ k, sv1.ownBlock = some k → sv.ownBlock = some k ∨ w.heap.size ≤ k)
    (k : Stepped w1 w' p mb most sv1 L2) : Stepped w w' p mb most sv L2 := by
  obtain ⟨sv2, k1, k2, k3⟩ := k
  refine ⟨sv2, k1, Fr.trans h2 k2 ?_, ?_⟩
  · rintro i (hi | hi | hi) hlt
    · exact .inl hi
    · exact .inr (.inl hi)
    · exact (h3 i hi).elim (fun h => .inr (.inr h)) (fun h => by omega)
  · intro i hi
    rcases k3 i hi with h | h
    · exact h3 i h
    · exact .inr (by have := h2.size; omega)

/-- A block of another type than a store's is as it was. -/
theorem Stepped.block {w w' : World} {p mb : Nat} {most : Int} {sv : Value} {L L' : List Ent} (hS : St w p mb most sv L) (h : Stepped w w' p mb most sv L') {b : Nat} {cs : Array Value} {t : TypeId} {f : Nat × Nat}
    (hb : w.heap[b]? = some (.cells cs t f)) (h1 : t ≠ 121) (h2 : t ≠ 183) : w'.heap[b]? = some (.cells cs t f) := by
  obtain ⟨sv', _, hf, _⟩ := h
  refine hf.kept hb ?_
  rintro (e | e | e)
  · rw [e, hS.ptr] at hb; simp at hb; exact h1 hb.2.1.symm
  · rw [e, hS.mp] at hb; simp at hb
  · rcases hS.own.2 with ⟨e1, _⟩ | ⟨g, cap, cur, e1, _, hg, _⟩
    · rw [e1] at e; simp [Value.ownBlock] at e
    · rw [e1] at e
      simp [Value.ownBlock] at e
      subst e
      rw [hg] at hb; simp at hb; exact h2 hb.2.1.symm

theorem Stepped.bytes {w w' : World} {p mb : Nat} {most : Int} {sv : Value} {L L' : List Ent} (hS : St w p mb most sv L) (h : Stepped w w' p mb most sv L') {bb off : Nat} {bs : List Int} (hb : BytesAt w bb off bs) : BytesAt w' bb off bs := by
  obtain ⟨cur, fr, h1, h2⟩ := hb.blk
  exact ⟨⟨cur, fr, h.block hS h1 (by decide) (by decide), h2⟩, hb.rng⟩

set_option maxRecDepth 100000 in
set_option maxHeartbeats 1000000 in
theorem bal_text : ∀ (f : Nat) (w : World) (p mb : Nat) (most : Int) (sv : Value) (L : List Ent) (bb off n cap : Nat) (bs : List Int), St w p mb most sv L → SOk L → DOk L → BytesAt w bb off bs → bs.length = n → 1 ≤ n → n ≤ f → n ≤ 65536 → n ≤ cap → cap ≤ 9223372036854775807 →
    ((L.length + 2 * n : Nat) : Int) ≤ most → L.length + 2 * n ≤ 1048576 →
    Calls Tryz.prog 68 #[.pointer (some ⟨p, 0, none⟩), .slice (some ⟨bb, off, none⟩) n cap] w fun e w' => e = .returned (.tuple #[.int .i64 (textR f L bs).2, .nilIface]) ∧ Stepped w w' p mb most sv (textR f L bs).1 := by
  intro f
  induction f with
  | zero => intro w p mb most sv L bb off n cap bs _ _ _ _ _ h1 h2; omega
  | succ f ih =>
    intro w p mb most sv L bb off n cap bs hS hO hD hB hlen h1 h2 h3 hc hc2 hm hL
    by_cases hn : n = 1
    · have e1 : (textR (f + 1) L bs) = (addL L (letterEnt (bs.getD 0 0)), addI L (letterEnt (bs.getD 0 0))) := by
        unfold textR; rw [if_pos (by omega)]
      rw [e1]
      have e2 : bs.getD 0 0 = bs[0]'(by omega) := by rw [List.getD_eq_getElem?_getD, List.getElem?_eq_getElem (by omega)]; rfl
      rw [e2]
      have hr := hB.rng (bs[0]'(by omega)) (List.getElem_mem _)
      have CL := Lib.hid (st_Letter hS (bs[0]'(by omega)) hr.1 hr.2 (by omega) (by omega))
      have hb0 := hB.cell 0 (by omega)
      rw [Nat.add_zero] at hb0
      generalize bs[0]'(by omega) = b at *
      subst hn
      clear ih hS hO hD hB e1 e2 hm hlen
      go_enter Tryz.func68, Tryz.ntmps68
      go_wp2_with fail
      refine CL.out.mono ?_
      rintro e w1 ⟨rfl, hst⟩
      go_wp2_with fail
      go_ret2
      exact ⟨rfl, hst⟩
    · have e1 : (textR (f + 1) L bs) = (addL (textR f (textR f L (bs.take (n / 2))).1 (bs.drop (n / 2))).1 (pairEnt (textR f (textR f L (bs.take (n / 2))).1 (bs.drop (n / 2))).1 (textR f L (bs.take (n / 2))).2 (textR f (textR f L (bs.take (n / 2))).1 (bs.drop (n / 2))).2), addI (textR f (textR f L (bs.take (n / 2))).1 (bs.drop (n / 2))).1 (pairEnt (textR f (textR f L (bs.take (n / 2))).1 (bs.drop (n / 2))).1 (textR f L (bs.take (n / 2))).2 (textR f (textR f L (bs.take (n / 2))).1 (bs.drop (n / 2))).2)) := by
        conv => lhs; unfold textR
        rw [if_neg (by omega), hlen]
      rw [e1]
      have la : (bs.take (n / 2)).length = n / 2 := by simp; omega
      have lb : (bs.drop (n / 2)).length = n - n / 2 := by simp; omega
      have ta := textR_ok f L (bs.take (n / 2)) hO hD (by omega) (by omega) (by omega) (hB.take _).rng
      have tb := textR_ok f (textR f L (bs.take (n / 2))).1 (bs.drop (n / 2)) ta.sok ta.dok (by omega) (by omega) (by omega) (hB.drop _).rng
      rw [la] at ta
      rw [lb] at tb
      have c1 := ih w p mb most sv L bb off (n / 2) cap (bs.take (n / 2)) hS hO hD (hB.take _) la (by omega) (by omega) (by omega) (by omega) hc2 (by omega) (by omega)
      have hla := ta.len
      have hlb := tb.len
      have c2 := fun w1 sv1 (h : St w1 p mb most sv1 (textR f L (bs.take (n / 2))).1) (hb : BytesAt w1 bb off bs) => ih w1 p mb most sv1 _ bb (off + n / 2) (n - n / 2) (cap - n / 2) (bs.drop (n / 2)) h ta.sok ta.dok (hb.drop _) lb (by omega) (by omega) (by omega) (by omega) (by omega) (by omega) (by omega)
      obtain ⟨M2, eM⟩ := tb.ext
      have ka : isKnown (textR f (textR f L (bs.take (n / 2))).1 (bs.drop (n / 2))).1 (textR f L (bs.take (n / 2))).2 := by rw [eM]; exact isKnown_append M2 ta.known
      have ea : entAt (textR f (textR f L (bs.take (n / 2))).1 (bs.drop (n / 2))).1 (textR f L (bs.take (n / 2))).2 = entAt (textR f L (bs.take (n / 2))).1 (textR f L (bs.take (n / 2))).2 := by rw [eM]; exact entAt_append _ M2 _ ta.known
      have hw1 := ta.wlen
      have hw2 := tb.wlen
      have c3 := fun w2 sv2 (h : St w2 p mb most sv2 (textR f (textR f L (bs.take (n / 2))).1 (bs.drop (n / 2))).1) => st_Pair h tb.sok _ _ ka tb.known ta.ne tb.ne (by rw [ea, hw1, hw2]; omega) (by omega) (by omega)
      have hB0 := fun w1 (h : Stepped w w1 p mb most sv (textR f L (bs.take (n / 2))).1) => h.bytes hS hB
      have C1 := Lib.hid c1
      have C2 := Lib.hid c2
      have C3 := Lib.hid c3
      have HB := Lib.hid hB0
      clear c1 c2 c3 hB0 ea ka hw1 hw2 eM ta tb hO hD hB hS ih e1 hla hlb la lb hm hlen
      generalize (textR f (textR f L (bs.take (n / 2))).1 (bs.drop (n / 2))).2 = idb at *
      generalize (textR f (textR f L (bs.take (n / 2))).1 (bs.drop (n / 2))).1 = LB at *
      generalize (textR f L (bs.take (n / 2))).2 = ida at *
      generalize (textR f L (bs.take (n / 2))).1 = LA at *
      have hn1 : ((n : Int) == 1) = false := by simp; omega
      have hb1 : (0 : Int) ≤ (n : Int) / 2 := by omega
      have hb2 : (n : Int) / 2 ≤ (cap : Int) := by omega
      have hb3 : (n : Int) / 2 ≤ (n : Int) := by omega
      go_enter Tryz.func68, Tryz.ntmps68
      go_wp2_with fail
      refine C1.out.mono ?_
      rintro e w1 ⟨rfl, hst1⟩
      have hb := HB.out w1 hst1
      obtain ⟨sv1, hS1, hf1, hv1⟩ := hst1
      have D2 := Lib.hid (C2.out w1 sv1 hS1 hb)
      have HF1 := Lib.hid hf1
      have HV1 := Lib.hid hv1
      clear hb hS1 hf1 hv1 C2 HB C1
      go_wp2_with fail
      refine D2.out.mono ?_
      rintro e w2 ⟨rfl, hst2⟩
      obtain ⟨sv2, hS2, hf2, hv2⟩ := hst2
      have D3 := Lib.hid (C3.out w2 sv2 hS2)
      have HF2 := Lib.hid hf2
      have HV2 := Lib.hid hv2
      clear D2 hS2 hf2 hv2 C3
      go_wp2_with fail
      refine D3.out.mono ?_
      rintro e w3 ⟨rfl, hst3⟩
      go_wp2_with fail
      go_ret2
      exact ⟨rfl, Stepped.next HF1.out HV1.out (Stepped.next HF2.out HV2.out hst3)⟩

set_option maxRecDepth 100000 in
set_option maxHeartbeats 1000000 in
theorem bal_Text {w : World} {p mb : Nat} {most : Int} {sv : Value} {L : List Ent} (hS : St w p mb most sv L) (hO : SOk L) (hD : DOk L) (bb off n cap : Nat) (bs : List Int) (hB : BytesAt w bb off bs) (hlen : bs.length = n) (h1 : 1 ≤ n) (h3 : n ≤ 65536) (hc : n ≤ cap) (hc2 : cap ≤ 9223372036854775807)
    (hm : ((L.length + 2 * n : Nat) : Int) ≤ most) (hL : L.length + 2 * n ≤ 1048576) :
    Calls Tryz.prog 31 #[.pointer (some ⟨p, 0, none⟩), .slice (some ⟨bb, off, none⟩) n cap] w fun e w' => e = .returned (.tuple #[.int .i64 (textR n L bs).2, .nilIface]) ∧ Stepped w w' p mb most sv (textR n L bs).1 := by
  have C1 := Lib.hid (bal_text n w p mb most sv L bb off n cap bs hS hO hD hB hlen h1 (Nat.le_refl _) h3 hc hc2 hm hL)
  have hn0 : ((n : Int) == 0) = false := by simp; omega
  clear hS hO hD hB hlen hm hL
  generalize (textR n L bs).2 = id at *
  generalize (textR n L bs).1 = LB at *
  go_enter Tryz.func31, Tryz.ntmps31
  go_wp2_with fail
  refine C1.out.mono ?_
  rintro e w1 ⟨rfl, hst1⟩
  go_wp2_with fail
  go_ret2
  exact ⟨rfl, hst1⟩

set_option maxRecDepth 100000 in
set_option maxHeartbeats 1000000 in
theorem bal_Text_nil {w : World} {p : Nat} (a : Option Addr) (cap : Nat) :
    Calls Tryz.prog 31 #[.pointer (some ⟨p, 0, none⟩), .slice a 0 cap] w fun e w' => e = .returned (.tuple #[.int .i64 0, .nilIface]) ∧ w = w' := by
  go_enter Tryz.func31, Tryz.ntmps31
  go_wp2_with fail
  go_ret2
  exact ⟨rfl, rfl⟩

end Go.Proofs.YtclpndigmidjkaaGreat

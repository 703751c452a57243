/- The walk of Letter. -/
import Derived.Test.YtodmpcnpedpheaaDoorQSt4
set_option linter.unusedSimpArgs false
set_option linter.unusedVariables false
namespace Go.Proofs.YtodmpcnpedpheaaDoor
open Go.RowKit

/-- From w to w' the store has come to L', and nothing else that was there has changed. -/
def Stepped (w w' : World) (p mb : Nat) (most : Int) (sv : Value) (L' : List Ent) : Prop :=
  ∃ sv', St w' p mb most sv' L' ∧ Fr (fun k => k = p ∨ k = mb ∨ sv.ownBlock = some k) w w' ∧ (∀ k, sv'.ownBlock = some k → sv.ownBlock = some k ∨ w.heap.size ≤ k)

theorem Stepped.same {w w' : World} {p mb : Nat} {most : Int} {sv : Value} {L : List Ent} (h : St w p mb most sv L) (hf : Fr0 w w') : Stepped w w' p mb most sv L :=
  ⟨sv, h.kept0 hf, hf.fr, fun _ h => .inl h⟩

/-- Behind calls that only made memory. -/
theorem Stepped.before {w w1 w' : World} {p mb : Nat} {most : Int} {sv : Value} {L' : List Ent} (h0 : Fr0 w w1) (h : Stepped w1 w' p mb most sv L') : Stepped w w' p mb most sv L' := by
  obtain ⟨sv', h1, h2, h3⟩ := h
  exact ⟨sv', h1, Fr.trans h0.fr h2 (fun _ h _ => h), fun k hk => (h3 k hk).elim .inl (fun h => .inr (by have := h0.size'; omega))⟩

theorem Stepped.after {w w1 w' : World} {p mb : Nat} {most : Int} {sv : Value} {L' : List Ent} (h : Stepped w w1 p mb most sv L') (h0 : Fr0 w1 w') : Stepped w w' p mb most sv L' := by
  obtain ⟨sv', h1, h2, h3⟩ := h
  exact ⟨sv', h1.kept0 h0, Fr.trans h2 h0 (fun _ h _ => h.elim), h3⟩

theorem Stepped.trans {w w1 w' : World} {p mb : Nat} {most : Int} {sv : Value} {L1 L2 : List Ent} (h : Stepped w w1 p mb most sv L1) (k : ∀ sv1, St w1 p mb most sv1 L1 → Stepped w1 w' p mb most sv1 L2) : Stepped w w' p mb most sv L2 := by
  obtain ⟨sv1, h1, h2, h3⟩ := h
  obtain ⟨sv2, k1, k2, k3⟩ := k sv1 h1
  refine ⟨sv2, k1, Fr.trans h2 k2 ?_, ?_⟩
  · rintro i (hi | hi | hi) hlt
    · exact .inl hi
    · exact .inr (.inl hi)
    · exact (h3 i hi).elim (fun h => .inr (.inr h)) (fun h => by omega)
  · intro i hi
    rcases k3 i hi with h | h
    · exact h3 i h
    · exact .inr (by have := h2.size; omega)

theorem st_add' {w : World} {p mb : Nat} {most : Int} {sv : Value} {L : List Ent} (hS : St w p mb most sv L) (x : Ent) (hj : ruleIdx x.rule L = none) (hL : L.length < 1048576) :
    Calls Tryd.prog 47 #[.pointer (some ⟨p, 0, none⟩), .agg #[.int .i64 x.rule.kind, .int .u8 x.rule.letter, .int .i64 x.rule.left, .int .i64 x.rule.right, .int .i64 x.rule.times, .int .i64 x.wt.len, .int .i64 x.wt.lines, .int .i64 x.wt.head, .int .i64 x.wt.tail, .int .u64 x.wt.val, .int .u64 x.wt.scale, .int .i64 x.depth, .bool x.even]] w
      fun e w' => e = .returned (.int .i64 ((L.length : Int) + 1)) ∧ Stepped w w' p mb most sv (L ++ [x]) :=
  st_add hS x hj hL

set_option maxRecDepth 100000 in
set_option maxHeartbeats 1000000 in
theorem st_Letter_some {w : World} {p mb : Nat} {most : Int} {sv : Value} {L : List Ent} (hS : St w p mb most sv L) (b : Int) (h0 : 0 ≤ b) (h1 : b < 256) (j : Nat) (hj : ruleIdx ⟨1, b, 0, 0, 0⟩ L = some j) :
    Calls Tryd.prog 32 #[.pointer (some ⟨p, 0, none⟩), .int .u8 b] w fun e w' => e = .returned (.tuple #[.int .i64 ((j : Int) + 1), .nilIface]) ∧ Fr0 w w' := by
  have CF := Lib.hid (fun w' (hf : Fr0 w w') => st_find_some (hS.kept0 hf) ⟨1, b, 0, 0, 0⟩ j hj)
  clear hS hj
  go_enter Tryd.func32, Tryd.ntmps32
  go_wp2_with fail
  refine (CF.out _ ((Fr0.refl w).alloc _)).mono ?_
  rintro e w1 ⟨rfl, hf1⟩
  have hj1 : ((j : Int) + 1 != 0) = true := by simp; omega
  go_wp2_with fail
  go_ret2
  exact ⟨rfl, ((Fr0.refl w).alloc _).trans hf1⟩

set_option maxRecDepth 100000 in
set_option maxHeartbeats 1000000 in
theorem st_Letter_none {w : World} {p mb : Nat} {most : Int} {sv : Value} {L : List Ent} (hS : St w p mb most sv L) (b : Int) (h0 : 0 ≤ b) (h1 : b < 256) (hj : ruleIdx (letterEnt b).rule L = none) (hm : (L.length : Int) < most) (hL : L.length < 1048576) :
    Calls Tryd.prog 32 #[.pointer (some ⟨p, 0, none⟩), .int .u8 b] w fun e w' => e = .returned (.tuple #[.int .i64 ((L.length : Int) + 1), .nilIface]) ∧ Stepped w w' p mb most sv (L ++ [letterEnt b]) := by
  have CF := Lib.hid (fun w' (hf : Fr0 w w') => st_find_none (hS.kept0 hf) ⟨1, b, 0, 0, 0⟩ hj hm)
  have cl : ∀ w', Calls Tryd.prog 48 #[.int .u8 b] w' fun e w'' => e = .returned (.agg #[.int .i64 (Wt.letter b).len, .int .i64 (Wt.letter b).lines, .int .i64 (Wt.letter b).head, .int .i64 (Wt.letter b).tail, .int .u64 (Wt.letter b).val, .int .u64 (Wt.letter b).scale]) ∧ Fr0 w' w'' := fun w' => wt_Letter b w' h0 h1
  have hx : letterEnt b = ⟨⟨1, b, 0, 0, 0⟩, Wt.letter b, 0, true⟩ := rfl
  rw [hx]
  generalize Wt.letter b = t at *
  have CL := Lib.hid cl
  have CA := Lib.hid (fun w' (hf : Fr0 w w') => st_add' (hS.kept0 hf) ⟨⟨1, b, 0, 0, 0⟩, t, 0, true⟩ hj hL)
  have HS := Lib.hid hS
  have lp := lt_of_block hS.ptr
  have lm := lt_of_block hS.mp
  have lv : ∀ k, sv.ownBlock = some k → k < w.heap.size := fun k hk => (hS.own.lt k hk).2
  have LV := Lib.hid lv
  clear hS hj lv cl hx
  go_enter Tryd.func32, Tryd.ntmps32
  go_wp2_with fail
  refine (CF.out _ ((Fr0.refl w).alloc _)).mono ?_
  rintro e w1 ⟨rfl, hf1⟩
  have hr1 := hf1.kept (b := w.heap.size) (alloc_at _ _ _ rfl)
  have hW1 : Fr0 w w1 := ((Fr0.refl w).alloc _).trans hf1
  have d0 : w1.cell? ⟨w.heap.size, 0, none⟩ = some (.int .i64 1) := by rw [cell_of_block hr1]; rfl
  have d1 : w1.cell? ⟨w.heap.size, 1, none⟩ = some (.int .u8 b) := by rw [cell_of_block hr1]; rfl
  have d2 : w1.cell? ⟨w.heap.size, 2, none⟩ = some (.int .i64 0) := by rw [cell_of_block hr1]; rfl
  have d3 : w1.cell? ⟨w.heap.size, 3, none⟩ = some (.int .i64 0) := by rw [cell_of_block hr1]; rfl
  have d4 : w1.cell? ⟨w.heap.size, 4, none⟩ = some (.int .i64 0) := by rw [cell_of_block hr1]; rfl
  have l1 := lt_of_block hr1
  clear hf1 CF hr1
  go_wp2_with fail
  generalize hE : w.heap.size = E at *
  have HE := Lib.hid hE
  clear hE
  go_region_held3 (fun w' => w'.cell? ⟨E, 0, none⟩ = some (.int .i64 1) ∧ w'.cell? ⟨E, 1, none⟩ = some (.int .u8 b) ∧ w'.cell? ⟨E, 2, none⟩ = some (.int .i64 0) ∧ w'.cell? ⟨E, 3, none⟩ = some (.int .i64 0) ∧ w'.cell? ⟨E, 4, none⟩ = some (.int .i64 0))
    (first | (go_keep; done) | ((try dsimp only); (repeat' apply And.intro); all_goals (go_split_ands; first | (rw [hfL.cell _ _ (by simp; omega)]; assumption) | (rw [Fr.cell hfA _ (by dsimp only; omega) hnE]; assumption))))
    (first | (go_at_call 48; refine (CL.out _).mono ?_; rintro e w2 ⟨rfl, hfL⟩; have l2 : E < w2.heap.size := (by have hq := hfL.size'; (try simp at hq); omega); have hW2 : Fr0 w w2 := hW1.drew.trans hfL) | (go_at_call 47; refine (CA.out _ hW2).mono ?_; rintro e w3 ⟨rfl, hst⟩; obtain ⟨sv3, hS3, hfA, hv3⟩ := hst; have hnE : ¬ (E = p ∨ E = mb ∨ sv.ownBlock = some E) := (by rintro (h | h | h); omega; omega; have := LV.out E h; omega)))
  go_wp2_with fail
  go_ret2
  exact ⟨rfl, (show Stepped w2 w3 p mb most sv _ from ⟨sv3, hS3, hfA, hv3⟩).before hW2⟩

end Go.Proofs.YtodmpcnpedpheaaDoor

/- The walk of Pair. -/
set_option linter.unusedSimpArgs false
set_option linter.unusedVariables false
namespace Go.Proofs.YtodmpcnpedpheaaDoor
open Go.RowKit

theorem st_Letter {w : World} {p mb : Nat} {most : Int} {sv : Value} {L : List Ent} (hS : St w p mb most sv L) (b : Int) (h0 : 0 ≤ b) (h1 : b < 256) (hm : (L.length : Int) < most) (hL : L.length < 1048576) :
    Calls Tryd.prog 32 #[.pointer (some ⟨p, 0, none⟩), .int .u8 b] w fun e w' => e = .returned (.tuple #[.int .i64 (addI L (letterEnt b)), .nilIface]) ∧ Stepped w w' p mb most sv (addL L (letterEnt b)) := by
  cases hj : ruleIdx (letterEnt b).rule L with
  | some j =>
    rw [addI_some hj, addL_some hj]
    exact (st_Letter_some hS b h0 h1 j hj).mono fun e w' ⟨h1, h2⟩ => ⟨h1, Stepped.same hS h2⟩
  | none =>
    rw [addI_none hj, addL_none hj]
    exact st_Letter_none hS b h0 h1 hj hm hL

/-- The cells of an entry's variable. -/
theorem cells13 {w : World} {b : Nat} {x0 x1 x2 x3 x4 x5 x6 x7 x8 x9 x10 x11 x12 : Value} {t : TypeId} (h : w.heap[b]? = some (.cells #[x0, x1, x2, x3, x4, x5, x6, x7, x8, x9, x10, x11, x12] t (0, 0))) :
    w.cell? ⟨b, 5, none⟩ = some x5 ∧ w.cell? ⟨b, 6, none⟩ = some x6 ∧ w.cell? ⟨b, 7, none⟩ = some x7 ∧ w.cell? ⟨b, 8, none⟩ = some x8 ∧ w.cell? ⟨b, 9, none⟩ = some x9 ∧ w.cell? ⟨b, 10, none⟩ = some x10 ∧ w.cell? ⟨b, 11, none⟩ = some x11 ∧ w.cell? ⟨b, 12, none⟩ = some x12 ∧ b < w.heap.size :=
  ⟨by rw [cell_of_block h]; rfl, by rw [cell_of_block h]; rfl, by rw [cell_of_block h]; rfl, by rw [cell_of_block h]; rfl, by rw [cell_of_block h]; rfl, by rw [cell_of_block h]; rfl, by rw [cell_of_block h]; rfl, by rw [cell_of_block h]; rfl, lt_of_block h⟩

theorem cells5 {w : World} {b : Nat} {x0 x1 x2 x3 x4 : Value} {t : TypeId} (h : w.heap[b]? = some (.cells #[x0, x1, x2, x3, x4] t (0, 0))) :
    w.cell? ⟨b, 0, none⟩ = some x0 ∧ w.cell? ⟨b, 1, none⟩ = some x1 ∧ w.cell? ⟨b, 2, none⟩ = some x2 ∧ w.cell? ⟨b, 3, none⟩ = some x3 ∧ w.cell? ⟨b, 4, none⟩ = some x4 ∧ b < w.heap.size :=
  ⟨by rw [cell_of_block h]; rfl, by rw [cell_of_block h]; rfl, by rw [cell_of_block h]; rfl, by rw [cell_of_block h]; rfl, by rw [cell_of_block h]; rfl, lt_of_block h⟩

set_option maxRecDepth 100000 in
set_option maxHeartbeats 1000000 in
theorem st_Pair_some {w : World} {p mb : Nat} {most : Int} {sv : Value} {L : List Ent} (hS : St w p mb most sv L) (hO : SOk L) (l r : Int) (hl : isKnown L l) (hr : isKnown L r) (l0 : l ≠ 0) (r0 : r ≠ 0)
    (hlen : (entAt L l).wt.len + (entAt L r).wt.len ≤ 1152921504606846976) (j : Nat) (hj : ruleIdx ⟨2, 0, l, r, 0⟩ L = some j) :
    Calls Tryd.prog 38 #[.pointer (some ⟨p, 0, none⟩), .int .i64 l, .int .i64 r] w fun e w' => e = .returned (.tuple #[.int .i64 ((j : Int) + 1), .nilIface]) ∧ Fr0 w w' := by
  have CF := Lib.hid (fun w' (hf : Fr0 w w') => st_find_some (hS.kept0 hf) ⟨2, 0, l, r, 0⟩ j hj)
  have K1 := Lib.hid (fun w' (hf : Fr0 w w') => st_known_yes (hS.kept0 hf) l hl)
  have K2 := Lib.hid (fun w' (hf : Fr0 w w') => st_known_yes (hS.kept0 hf) r hr)
  have a1 := fun w' (hf : Fr0 w w') => st_at (hS.kept0 hf) l hl
  have a2 := fun w' (hf : Fr0 w w') => st_at (hS.kept0 hf) r hr
  have q1 := (hO.at l hl).1.len0
  have q2 := (hO.at r hr).1.len0
  generalize entAt L l = x at *
  generalize entAt L r = y at *
  have A1 := Lib.hid a1
  have A2 := Lib.hid a2
  have hl0 : (l == 0) = false := by simpa using l0
  have hr0 : (r == 0) = false := by simpa using r0
  clear hS hj a1 a2 hO l0 r0 hl hr
  go_enter Tryd.func38, Tryd.ntmps38
  go_wp2_with fail
  refine (K1.out _ (Fr0.refl w)).mono ?_
  rintro e w' ⟨rfl, rfl⟩
  go_wp2_with fail
  refine (K2.out _ (Fr0.refl w)).mono ?_
  rintro e w' ⟨rfl, rfl⟩
  go_wp2_with fail
  refine (A1.out _ (Fr0.refl w)).mono ?_
  rintro e w1 ⟨rfl, hf1⟩
  go_wp2_with fail
  refine (A2.out _ hf1).mono ?_
  rintro e w2 ⟨rfl, hf2⟩
  have hW2 := hf1.trans hf2
  clear hf1 hf2
  go_wp2_with fail
  refine (len_Add_ok _ _ _ q1 q2 hlen).mono ?_
  rintro e w' ⟨rfl, rfl⟩
  go_wp2_with fail
  refine (CF.out _ (((hW2.alloc _).alloc _).alloc _)).mono ?_
  rintro e w4 ⟨rfl, hf4⟩
  have hj1 : ((j : Int) + 1 != 0) = true := by simp; omega
  go_wp2_with fail
  go_ret2
  exact ⟨rfl, (((hW2.alloc _).alloc _).alloc _).trans hf4⟩

end Go.Proofs.YtodmpcnpedpheaaDoor

/- The walk of Pair where the rule is new. -/
set_option linter.unusedSimpArgs false
set_option linter.unusedVariables false
namespace Go.Proofs.YtodmpcnpedpheaaDoor
open Go.RowKit

set_option maxRecDepth 100000 in
set_option maxHeartbeats 2000000 in
theorem st_Pair_none {w : World} {p mb : Nat} {most : Int} {sv : Value} {L : List Ent} (hS : St w p mb most sv L) (hO : SOk L) (l r : Int) (hl : isKnown L l) (hr : isKnown L r) (l0 : l ≠ 0) (r0 : r ≠ 0)
    (hlen : (entAt L l).wt.len + (entAt L r).wt.len ≤ 1152921504606846976) (hj : ruleIdx (pairEnt L l r).rule L = none) (hm : (L.length : Int) < most) (hL : L.length < 1048576) :
    Calls Tryd.prog 38 #[.pointer (some ⟨p, 0, none⟩), .int .i64 l, .int .i64 r] w fun e w' => e = .returned (.tuple #[.int .i64 ((L.length : Int) + 1), .nilIface]) ∧ Stepped w w' p mb most sv (L ++ [pairEnt L l r]) := by
  have CF := Lib.hid (fun w' (hf : Fr0 w w') => st_find_none (hS.kept0 hf) ⟨2, 0, l, r, 0⟩ hj hm)
  have K1 := Lib.hid (fun w' (hf : Fr0 w w') => st_known_yes (hS.kept0 hf) l hl)
  have K2 := Lib.hid (fun w' (hf : Fr0 w w') => st_known_yes (hS.kept0 hf) r hr)
  have a1 := fun w' (hf : Fr0 w w') => st_at (hS.kept0 hf) l hl
  have a2 := fun w' (hf : Fr0 w w') => st_at (hS.kept0 hf) r hr
  obtain ⟨v1, v2, v3, v4⟩ := hO.at l hl
  obtain ⟨u1, u2, u3, u4⟩ := hO.at r hr
  have q1 := v1.len0
  have q2 := u1.len0
  have cj : ∀ w', Calls Tryd.prog 55 #[.agg #[.int .i64 (entAt L l).wt.len, .int .i64 (entAt L l).wt.lines, .int .i64 (entAt L l).wt.head, .int .i64 (entAt L l).wt.tail, .int .u64 (entAt L l).wt.val, .int .u64 (entAt L l).wt.scale],
      .agg #[.int .i64 (entAt L r).wt.len, .int .i64 (entAt L r).wt.lines, .int .i64 (entAt L r).wt.head, .int .i64 (entAt L r).wt.tail, .int .u64 (entAt L r).wt.val, .int .u64 (entAt L r).wt.scale]] w'
      fun e w'' => e = .returned (.tuple #[.agg #[.int .i64 ((entAt L l).wt.join (entAt L r).wt).len, .int .i64 ((entAt L l).wt.join (entAt L r).wt).lines, .int .i64 ((entAt L l).wt.join (entAt L r).wt).head, .int .i64 ((entAt L l).wt.join (entAt L r).wt).tail, .int .u64 ((entAt L l).wt.join (entAt L r).wt).val, .int .u64 ((entAt L l).wt.join (entAt L r).wt).scale], .nilIface]) ∧ Fr0 w' w'' :=
    fun w' => wt_Join _ _ w' v1 u1 hlen
  have ca := fun (ev : Bool) (t : Wt) (d : Int) w' (hf : Fr0 w w') => st_add' (hS.kept0 hf) ⟨⟨2, 0, l, r, 0⟩, t, d, ev⟩ hj hL
  have hx : pairEnt L l r = ⟨⟨2, 0, l, r, 0⟩, (entAt L l).wt.join (entAt L r).wt, 1 + max (entAt L l).depth (entAt L r).depth,
    (entAt L l).even && (entAt L r).even && decide (-1 ≤ (entAt L l).depth - (entAt L r).depth) && decide ((entAt L l).depth - (entAt L r).depth ≤ 1)⟩ := rfl
  rw [hx]
  have LP := lt_of_block hS.ptr
  have LM := lt_of_block hS.mp
  have lv : ∀ k, sv.ownBlock = some k → k < w.heap.size := fun k hk => (hS.own.lt k hk).2
  have LV := Lib.hid lv
  generalize (entAt L l).wt.join (entAt L r).wt = t at *
  generalize entAt L l = x at *
  generalize entAt L r = y at *
  obtain ⟨ev, hev⟩ : ∃ b, (x.even && y.even && decide (-1 ≤ x.depth - y.depth) && decide (x.depth - y.depth ≤ 1)) = b := ⟨_, rfl⟩
  rw [hev]
  have HEV := Lib.hid hev
  have A1 := Lib.hid a1
  have A2 := Lib.hid a2
  have CJ := Lib.hid cj
  have CA := Lib.hid ca
  have hl0 : (l == 0) = false := by simpa using l0
  have hr0 : (r == 0) = false := by simpa using r0
  clear hS hj a1 a2 hO l0 r0 hl hr cj ca hx hev lv v1 v4 u1 u4
  go_enter Tryd.func38, Tryd.ntmps38
  go_wp2_with fail
  refine (K1.out _ (Fr0.refl w)).mono ?_
  rintro e w' ⟨rfl, rfl⟩
  go_wp2_with fail
  refine (K2.out _ (Fr0.refl w)).mono ?_
  rintro e w' ⟨rfl, rfl⟩
  go_wp2_with fail
  refine (A1.out _ (Fr0.refl w)).mono ?_
  rintro e w1 ⟨rfl, hf1⟩
  go_wp2_with fail
  refine (A2.out _ hf1).mono ?_
  rintro e w2 ⟨rfl, hf2⟩
  have hW2 := hf1.trans hf2
  clear hf1 hf2
  go_wp2_with fail
  refine (len_Add_ok _ _ _ q1 q2 hlen).mono ?_
  rintro e w' ⟨rfl, rfl⟩
  go_wp2_with fail
  refine (CF.out _ (((hW2.alloc _).alloc _).alloc _)).mono ?_
  rintro e w4 ⟨rfl, hf4⟩
  have hx4 := hf4.kept (alloc3_0 _ _ _ _)
  have hy4 := hf4.kept (alloc3_1 _ _ _ _)
  have hr4 := hf4.kept (alloc3_2 _ _ _ _)
  have hW4 := (((hW2.alloc _).alloc _).alloc _).trans hf4
  clear hf4 hW2 CF K1 K2 A1 A2
  generalize w2.heap.size = N at *
  clear w2
  obtain ⟨x5, x6, x7, x8, x9, x10, x11, x12, lx⟩ := cells13 hx4
  obtain ⟨y5, y6, y7, y8, y9, y10, y11, y12, ly⟩ := cells13 hy4
  obtain ⟨r1, r2, r3, r4, r5, lr⟩ := cells5 hr4
  go_wp2_with fail
  refine (CJ.out _).mono ?_
  rintro e w5 ⟨rfl, hf5⟩
  have hx5 := hf5.kept hx4
  have hy5 := hf5.kept hy4
  have hr5 := hf5.kept hr4
  have hW5 := hW4.trans hf5
  clear hf5 hW4 x5 x6 x7 x8 x9 x10 x11 x12 lx y5 y6 y7 y8 y9 y10 y11 y12 ly r1 r2 r3 r4 r5 lr hx4 hy4 hr4 CJ
  clear w4
  obtain ⟨x5, x6, x7, x8, x9, x10, x11, x12, lx⟩ := cells13 hx5
  obtain ⟨y5, y6, y7, y8, y9, y10, y11, y12, ly⟩ := cells13 hy5
  have hr5' : w5.heap[N + 1 + 1]? = some (.cells #[.int .i64 2, .int .u8 0, .int .i64 l, .int .i64 r, .int .i64 0] 112 (0, 0)) := hr5
  obtain ⟨r1, r2, r3, r4, r5, lr⟩ := cells5 hr5'
  clear hr5 hr5'
  clear x5 x6 x7 x8 x9 x10 y5 y6 y7 y8 y9 y10
  have n1 : ¬ w5.heap.size = N := by omega
  have n2 : ¬ w5.heap.size = N + 1 := by omega
  have n3 : ¬ w5.heap.size = N + 1 + 1 := by omega
  go_upto_region 21 with fail
  have fin : ∀ (b : Bool) (d : Int), b = ev → d = 1 + max x.depth y.depth → Hid (∀ w', Fr0 w w' → Calls Tryd.prog 47 #[.pointer (some ⟨p, 0, none⟩), .agg #[.int .i64 2, .int .u8 0, .int .i64 l, .int .i64 r, .int .i64 0, .int .i64 t.len, .int .i64 t.lines, .int .i64 t.head, .int .i64 t.tail, .int .u64 t.val, .int .u64 t.scale, .int .i64 d, .bool b]] w' fun e w'' => e = .returned (.int .i64 ((L.length : Int) + 1)) ∧ Stepped w' w'' p mb most sv (L ++ [⟨⟨2, 0, l, r, 0⟩, t, 1 + max x.depth y.depth, ev⟩])) :=
    fun b d hb hd => by subst hb; subst hd; exact fun w' hf => CA.out b t (1 + max x.depth y.depth) w' hf
  have FIN := Lib.hid fin
  clear CA fin
  by_cases hmax : x.depth < y.depth
  · cases hxe : x.even with
    | false =>
      rw [hxe] at x12
      have C := FIN.out false (1 + y.depth) (by rw [← HEV.out]; simp [hxe]) (by omega)
      clear FIN HEV
      go_wp2_with fail
      refine (C.out _ (hW5.alloc _)).mono ?_
      rintro e w6 ⟨rfl, hst⟩
      go_wp2_with fail
      go_ret2
      exact ⟨rfl, hst.before (hW5.alloc _)⟩
    | true =>
      rw [hxe] at x12
      cases hye : y.even with
      | false =>
        rw [hye] at y12
        have C := FIN.out false (1 + y.depth) (by rw [← HEV.out]; simp [hxe, hye]) (by omega)
        clear FIN HEV
        go_wp2_with fail
        refine (C.out _ (hW5.alloc _)).mono ?_
        rintro e w6 ⟨rfl, hst⟩
        go_wp2_with fail
        go_ret2
        exact ⟨rfl, hst.before (hW5.alloc _)⟩
      | true =>
        rw [hye] at y12
        by_cases hc1 : -1 ≤ x.depth - y.depth
        · have hc2 : x.depth - y.depth ≤ 1 := by omega
          have C := FIN.out true (1 + y.depth) (by rw [← HEV.out]; simp [hxe, hye, hc1, hc2]) (by omega)
          clear FIN HEV
          go_wp2_with fail
          refine (C.out _ (hW5.alloc _)).mono ?_
          rintro e w6 ⟨rfl, hst⟩
          go_wp2_with fail
          go_ret2
          exact ⟨rfl, hst.before (hW5.alloc _)⟩
        · have hd1 : decide (-1 ≤ x.depth - y.depth) = false := decide_eq_false hc1
          have C := FIN.out false (1 + y.depth) (by rw [← HEV.out]; simp [hxe, hye, hd1]) (by omega)
          clear FIN HEV
          go_wp2_with fail
          refine (C.out _ (hW5.alloc _)).mono ?_
          rintro e w6 ⟨rfl, hst⟩
          go_wp2_with fail
          go_ret2
          exact ⟨rfl, hst.before (hW5.alloc _)⟩
  · cases hxe : x.even with
    | false =>
      rw [hxe] at x12
      have C := FIN.out false (1 + x.depth) (by rw [← HEV.out]; simp [hxe]) (by omega)
      clear FIN HEV
      go_wp2_with fail
      refine (C.out _ (hW5.alloc _)).mono ?_
      rintro e w6 ⟨rfl, hst⟩
      go_wp2_with fail
      go_ret2
      exact ⟨rfl, hst.before (hW5.alloc _)⟩
    | true =>
      rw [hxe] at x12
      cases hye : y.even with
      | false =>
        rw [hye] at y12
        have C := FIN.out false (1 + x.depth) (by rw [← HEV.out]; simp [hxe, hye]) (by omega)
        clear FIN HEV
        go_wp2_with fail
        refine (C.out _ (hW5.alloc _)).mono ?_
        rintro e w6 ⟨rfl, hst⟩
        go_wp2_with fail
        go_ret2
        exact ⟨rfl, hst.before (hW5.alloc _)⟩
      | true =>
        rw [hye] at y12
        have hc1 : -1 ≤ x.depth - y.depth := by omega
        by_cases hc2 : x.depth - y.depth ≤ 1
        · have C := FIN.out true (1 + x.depth) (by rw [← HEV.out]; simp [hxe, hye, hc1, hc2]) (by omega)
          clear FIN HEV
          go_wp2_with fail
          refine (C.out _ (hW5.alloc _)).mono ?_
          rintro e w6 ⟨rfl, hst⟩
          go_wp2_with fail
          go_ret2
          exact ⟨rfl, hst.before (hW5.alloc _)⟩
        · have hd2 : decide (x.depth - y.depth ≤ 1) = false := decide_eq_false hc2
          have C := FIN.out false (1 + x.depth) (by rw [← HEV.out]; simp [hxe, hye, hc1, hd2]) (by omega)
          clear FIN HEV
          go_wp2_with fail
          refine (C.out _ (hW5.alloc _)).mono ?_
          rintro e w6 ⟨rfl, hst⟩
          go_wp2_with fail
          go_ret2
          exact ⟨rfl, hst.before (hW5.alloc _)⟩

end Go.Proofs.YtodmpcnpedpheaaDoor

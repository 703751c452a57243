/- The walk of Letter. -/
import Derived.Test.YtodmpcnpedpheaaGreatDoorRSt4
import Derived.Test.YtodmpcnpedpheaaGreatDoorRMap
set_option linter.unusedSimpArgs false
set_option linter.unusedVariables false
namespace Go.Proofs.YtodmpcnpedpheaaGreatDoor
open Go.RowKit

/-- From w to w' the store has come to L', and nothing else that was there has changed. -/
def Stepped (w w' : World) (p mb : Nat) (most : Int) (sv : Value) (L' : List Ent) : Prop :=
  ∃ sv', St w' p mb most sv' L' ∧ Fr (fun k => k = p ∨ k = mb ∨ sv.ownBlock = some k) w w' ∧ (∀ k, sv'.ownBlock = some k → sv.ownBlock = some k ∨ w.heap.size ≤ k)

theorem Stepped.same {w w' : World} {p mb : Nat} {most : Int} {sv : Value} {L : List Ent} (h : St w p mb most sv L) (hf : Fr0 w w') : Stepped w w' p mb most sv L :=
  ⟨sv, h.kept0 hf, hf.fr, fun _ h => .inl h⟩

/-- Behind calls that only made memory. -/
theorem Stepped.before {w w1 w' : World} {p mb : Nat} {most : Int} {sv : Value} {L' : List Ent} (h0 : Fr0 w w1) (h : Stepped w1 w' p mb most sv L') : Stepped w w' p mb most sv L' := by
  obtain ⟨sv', h1, h2, h3⟩ := h
  exact ⟨sv', h1, Fr.trans h0.fr h2 (fun _ h _ => h), fun k hk => (h3 k hk).elim .inl (fun h => .inr (by have := h0.size'; omega))⟩

theorem Stepped.after {w w1 w' : World} {p mb : Nat} {most : Int} {sv : Value} {L' : List Ent} (h : Stepped w w1 p mb most sv L') (h0 : Fr0 w1 w') : Stepped w w' p mb most sv L' := by
  obtain ⟨sv', h1, h2, h3⟩ := h
  exact ⟨sv', h1.kept0 h0, Fr.trans h2 h0 (fun _ h _ => h.elim), h3⟩

theorem Stepped.trans {w w1 w' : World} {p mb : Nat} {most : Int} {sv : Value} {L1 L2 : List Ent} (h : Stepped w w1 p mb most sv L1) (k : ∀ sv1, St w1 p mb most sv1 L1 → Stepped w1 w' p mb most sv1 L2) : Stepped w w' p mb most sv L2 := by
  obtain ⟨sv1, h1, h2, h3⟩ := h
  obtain ⟨sv2, k1, k2, k3⟩ := k sv1 h1
  refine ⟨sv2, k1, Fr.trans h2 k2 ?_, ?_⟩
  · rintro i (hi | hi | hi) hlt
    · exact .inl hi
    · exact .inr (.inl hi)
    · exact (h3 i hi).elim (fun h => .inr (.inr h)) (fun h => by omega)
  · intro i hi
    rcases k3 i hi with h | h
    · exact h3 i h
    · exact .inr (by have := h2.size; omega)

theorem st_add' {w : World} {p mb : Nat} {most : Int} {sv : Value} {L : List Ent} (hS : St w p mb most sv L) (x : Ent) (hj : ruleIdx x.rule L = none) (hL : L.length < 1048576) :
    Calls Tryz.prog 44 #[.pointer (some ⟨p, 0, none⟩), .agg #[.int .i64 x.rule.kind, .int .u8 x.rule.letter, .int .i64 x.rule.left, .int .i64 x.rule.right, .int .i64 x.rule.times, .int .i64 x.wt.len, .int .i64 x.wt.lines, .int .i64 x.wt.head, .int .i64 x.wt.tail, .int .u64 x.wt.val, .int .u64 x.wt.scale, .int .i64 x.depth, .bool x.even]] w
      fun e w' => e = .returned (.int .i64 ((L.length : Int) + 1)) ∧ Stepped w w' p mb most sv (L ++ [x]) :=
  st_add hS x hj hL

set_option maxRecDepth 100000 in
set_option maxHeartbeats 1000000 in
theorem st_Letter_some {w : World} {p mb : Nat} {most : Int} {sv : Value} {L : List Ent} (hS : St w p mb most sv L) (b : Int) (h0 : 0 ≤ b) (h1 : b < 256) (j : Nat) (hj : ruleIdx ⟨1, b, 0, 0, 0⟩ L = some j) :
    Calls Tryz.prog 27 #[.pointer (some ⟨p, 0, none⟩), .int .u8 b] w fun e w' => e = .returned (.tuple #[.int .i64 ((j : Int) + 1), .nilIface]) ∧ Fr0 w w' := by
  have CF := Lib.hid (fun w' (hf : Fr0 w w') => st_find_some (hS.kept0 hf) ⟨1, b, 0, 0, 0⟩ j hj)
  clear hS hj
  go_enter Tryz.func27, Tryz.ntmps27
  go_wp2_with fail
  refine (CF.out _ ((Fr0.refl w).alloc _)).mono ?_
  rintro e w1 ⟨rfl, hf1⟩
  have hj1 : ((j : Int) + 1 != 0) = true := by simp; omega
  go_wp2_with fail
  go_ret2
  exact ⟨rfl, ((Fr0.refl w).alloc _).trans hf1⟩

set_option maxRecDepth 100000 in
set_option maxHeartbeats 1000000 in
theorem st_Letter_none {w : World} {p mb : Nat} {most : Int} {sv : Value} {L : List Ent} (hS : St w p mb most sv L) (b : Int) (h0 : 0 ≤ b) (h1 : b < 256) (hj : ruleIdx (letterEnt b).rule L = none) (hm : (L.length : Int) < most) (hL : L.length < 1048576) :
    Calls Tryz.prog 27 #[.pointer (some ⟨p, 0, none⟩), .int .u8 b] w fun e w' => e = .returned (.tuple #[.int .i64 ((L.length : Int) + 1), .nilIface]) ∧ Stepped w w' p mb most sv (L ++ [letterEnt b]) := by
  have CF := Lib.hid (fun w' (hf : Fr0 w w') => st_find_none (hS.kept0 hf) ⟨1, b, 0, 0, 0⟩ hj hm)
  have cl : ∀ w', Calls Tryz.prog 45 #[.int .u8 b] w' fun e w'' => e = .returned (.agg #[.int .i64 (Wt.letter b).len, .int .i64 (Wt.letter b).lines, .int .i64 (Wt.letter b).head, .int .i64 (Wt.letter b).tail, .int .u64 (Wt.letter b).val, .int .u64 (Wt.letter b).scale]) ∧ Fr0 w' w'' := fun w' => wt_Letter b w' h0 h1
  have hx : letterEnt b = ⟨⟨1, b, 0, 0, 0⟩, Wt.letter b, 0, true⟩ := rfl
  rw [hx]
  generalize Wt.letter b = t at *
  have CL := Lib.hid cl
  have CA := Lib.hid (fun w' (hf : Fr0 w w') => st_add' (hS.kept0 hf) ⟨⟨1, b, 0, 0, 0⟩, t, 0, true⟩ hj hL)
  have HS := Lib.hid hS
  have lp := lt_of_block hS.ptr
  have lm := lt_of_block hS.mp
  have lv : ∀ k, sv.ownBlock = some k → k < w.heap.size := fun k hk => (hS.own.lt k hk).2
  have LV := Lib.hid lv
  clear hS hj lv cl hx
  go_enter Tryz.func27, Tryz.ntmps27
  go_wp2_with fail
  refine (CF.out _ ((Fr0.refl w).alloc _)).mono ?_
  rintro e w1 ⟨rfl, hf1⟩
  have hr1 := hf1.kept (b := w.heap.size) (alloc_at _ _ _ rfl)
  have hW1 : Fr0 w w1 := ((Fr0.refl w).alloc _).trans hf1
  have d0 : w1.cell? ⟨w.heap.size, 0, none⟩ = some (.int .i64 1) := by rw [cell_of_block hr1]; rfl
  have d1 : w1.cell? ⟨w.heap.size, 1, none⟩ = some (.int .u8 b) := by rw [cell_of_block hr1]; rfl
  have d2 : w1.cell? ⟨w.heap.size, 2, none⟩ = some (.int .i64 0) := by rw [cell_of_block hr1]; rfl
  have d3 : w1.cell? ⟨w.heap.size, 3, none⟩ = some (.int .i64 0) := by rw [cell_of_block hr1]; rfl
  have d4 : w1.cell? ⟨w.heap.size, 4, none⟩ = some (.int .i64 0) := by rw [cell_of_block hr1]; rfl
  have l1 := lt_of_block hr1
  clear hf1 CF hr1
  go_wp2_with fail
  generalize hE : w.heap.size = E at *
  have HE := Lib.hid hE
  clear hE
  go_region_held3 (fun w' => w'.cell? ⟨E, 0, none⟩ = some (.int .i64 1) ∧ w'.cell? ⟨E, 1, none⟩ = some (.int .u8 b) ∧ w'.cell? ⟨E, 2, none⟩ = some (.int .i64 0) ∧ w'.cell? ⟨E, 3, none⟩ = some (.int .i64 0) ∧ w'.cell? ⟨E, 4, none⟩ = some (.int .i64 0))
    (first | (go_keep; done) | ((try dsimp only); (repeat' apply And.intro); all_goals (go_split_ands; first | (rw [hfL.cell _ _ (by simp; omega)]; assumption) | (rw [Fr.cell hfA _ (by dsimp only; omega) hnE]; assumption))))
    (first | (go_at_call 45; refine (CL.out _).mono ?_; rintro e w2 ⟨rfl, hfL⟩; have l2 : E < w2.heap.size := (by have hq := hfL.size'; (try simp at hq); omega); have hW2 : Fr0 w w2 := hW1.drew.trans hfL) | (go_at_call 44; refine (CA.out _ hW2).mono ?_; rintro e w3 ⟨rfl, hst⟩; obtain ⟨sv3, hS3, hfA, hv3⟩ := hst; have hnE : ¬ (E = p ∨ E = mb ∨ sv.ownBlock = some E) := (by rintro (h | h | h); omega; omega; have := LV.out E h; omega)))
  go_wp2_with fail
  go_ret2
  exact ⟨rfl, (show Stepped w2 w3 p mb most sv _ from ⟨sv3, hS3, hfA, hv3⟩).before hW2⟩

end Go.Proofs.YtodmpcnpedpheaaGreatDoor

/- The walk of Pair. -/
set_option linter.unusedSimpArgs false
set_option linter.unusedVariables false
namespace Go.Proofs.YtodmpcnpedpheaaGreatDoor
open Go.RowKit

theorem st_Letter {w : World} {p mb : Nat} {most : Int} {sv : Value} {L : List Ent} (hS : St w p mb most sv L) (b : Int) (h0 : 0 ≤ b) (h1 : b < 256) (hm : (L.length : Int) < most) (hL : L.length < 1048576) :
    Calls Tryz.prog 27 #[.pointer (some ⟨p, 0, none⟩), .int .u8 b] w fun e w' => e = .returned (.tuple #[.int .i64 (addI L (letterEnt b)), .nilIface]) ∧ Stepped w w' p mb most sv (addL L (letterEnt b)) := by
  cases hj : ruleIdx (letterEnt b).rule L with
  | some j =>
    rw [addI_some hj, addL_some hj]
    exact (st_Letter_some hS b h0 h1 j hj).mono fun e w' ⟨h1, h2⟩ => ⟨h1, Stepped.same hS h2⟩
  | none =>
    rw [addI_none hj, addL_none hj]
    exact st_Letter_none hS b h0 h1 hj hm hL

/-- The cells of an entry's variable. -/
theorem cells13 {w : World} {b : Nat} {x0 x1 x2 x3 x4 x5 x6 x7 x8 x9 x10 x11 x12 : Value} {t : TypeId} (h : w.heap[b]? = some (.cells #[x0, x1, x2, x3, x4, x5, x6, x7, x8, x9, x10, x11, x12] t (0, 0))) :
    w.cell? ⟨b, 5, none⟩ = some x5 ∧ w.cell? ⟨b, 6, none⟩ = some x6 ∧ w.cell? ⟨b, 7, none⟩ = some x7 ∧ w.cell? ⟨b, 8, none⟩ = some x8 ∧ w.cell? ⟨b, 9, none⟩ = some x9 ∧ w.cell? ⟨b, 10, none⟩ = some x10 ∧ w.cell? ⟨b, 11, none⟩ = some x11 ∧ w.cell? ⟨b, 12, none⟩ = some x12 ∧ b < w.heap.size :=
  ⟨by rw [cell_of_block h]; rfl, by rw [cell_of_block h]; rfl, by rw [cell_of_block h]; rfl, by rw [cell_of_block h]; rfl, by rw [cell_of_block h]; rfl, by rw [cell_of_block h]; rfl, by rw [cell_of_block h]; rfl, by rw [cell_of_block h]; rfl, lt_of_block h⟩

theorem cells5 {w : World} {b : Nat} {x0 x1 x2 x3 x4 : Value} {t : TypeId} (h : w.heap[b]? = some (.cells #[x0, x1, x2, x3, x4] t (0, 0))) :
    w.cell? ⟨b, 0, none⟩ = some x0 ∧ w.cell? ⟨b, 1, none⟩ = some x1 ∧ w.cell? ⟨b, 2, none⟩ = some x2 ∧ w.cell? ⟨b, 3, none⟩ = some x3 ∧ w.cell? ⟨b, 4, none⟩ = some x4 ∧ b < w.heap.size :=
  ⟨by rw [cell_of_block h]; rfl, by rw [cell_of_block h]; rfl, by rw [cell_of_block h]; rfl, by rw [cell_of_block h]; rfl, by rw [cell_of_block h]; rfl, lt_of_block h⟩

set_option maxRecDepth 100000 in
set_option maxHeartbeats 1000000 in
theorem st_Pair_some {w : World} {p mb : Nat} {most : Int} {sv : Value} {L : List Ent} (hS : St w p mb most sv L) (hO : SOk L) (l r : Int) (hl : isKnown L l) (hr : isKnown L r) (l0 : l ≠ 0) (r0 : r ≠ 0)
    (hlen : (entAt L l).wt.len + (entAt L r).wt.len ≤ 1152921504606846976) (j : Nat) (hj : ruleIdx ⟨2, 0, l, r, 0⟩ L = some j) :
    Calls Tryz.prog 29 #[.pointer (some ⟨p, 0, none⟩), .int .i64 l, .int .i64 r] w fun e w' => e = .returned (.tuple #[.int .i64 ((j : Int) + 1), .nilIface]) ∧ Fr0 w w' := by
  have CF := Lib.hid (fun w' (hf : Fr0 w w') => st_find_some (hS.kept0 hf) ⟨2, 0, l, r, 0⟩ j hj)
  have K1 := Lib.hid (fun w' (hf : Fr0 w w') => st_known_yes (hS.kept0 hf) l hl)
  have K2 := Lib.hid (fun w' (hf : Fr0 w w') => st_known_yes (hS.kept0 hf) r hr)
  have a1 := fun w' (hf : Fr0 w w') => st_at (hS.kept0 hf) l hl
  have a2 := fun w' (hf : Fr0 w w') => st_at (hS.kept0 hf) r hr
  have q1 := (hO.at l hl).1.len0
  have q2 := (hO.at r hr).1.len0
  generalize entAt L l = x at *
  generalize entAt L r = y at *
  have A1 := Lib.hid a1
  have A2 := Lib.hid a2
  have hl0 : (l == 0) = false := by simpa using l0
  have hr0 : (r == 0) = false := by simpa using r0
  clear hS hj a1 a2 hO l0 r0 hl hr
  go_enter Tryz.func29, Tryz.ntmps29
  go_wp2_with fail
  refine (K1.out _ (Fr0.refl w)).mono ?_
  rintro e w' ⟨rfl, rfl⟩
  go_wp2_with fail
  refine (K2.out _ (Fr0.refl w)).mono ?_
  rintro e w' ⟨rfl, rfl⟩
  go_wp2_with fail
  refine (A1.out _ (Fr0.refl w)).mono ?_
  rintro e w1 ⟨rfl, hf1⟩
  go_wp2_with fail
  refine (A2.out _ hf1).mono ?_
  rintro e w2 ⟨rfl, hf2⟩
  have hW2 := hf1.trans hf2
  clear hf1 hf2
  go_wp2_with fail
  refine (len_Add_ok _ _ _ q1 q2 hlen).mono ?_
  rintro e w' ⟨rfl, rfl⟩
  go_wp2_with fail
  refine (CF.out _ (((hW2.alloc _).alloc _).alloc _)).mono ?_
  rintro e w4 ⟨rfl, hf4⟩
  have hj1 : ((j : Int) + 1 != 0) = true := by simp; omega
  go_wp2_with fail
  go_ret2
  exact ⟨rfl, (((hW2.alloc _).alloc _).alloc _).trans hf4⟩

end Go.Proofs.YtodmpcnpedpheaaGreatDoor

/- The walk of Pair where the rule is new. -/
set_option linter.unusedSimpArgs false
set_option linter.unusedVariables false
namespace Go.Proofs.YtodmpcnpedpheaaGreatDoor
open Go.RowKit

set_option maxRecDepth 100000 in
set_option maxHeartbeats 2000000 in
theorem st_Pair_none {w : World} {p mb : Nat} {most : Int} {sv : Value} {L : List Ent} (hS : St w p mb most sv L) (hO : SOk L) (l r : Int) (hl : isKnown L l) (hr : isKnown L r) (l0 : l ≠ 0) (r0 : r ≠ 0)
    (hlen : (entAt L l).wt.len + (entAt L r).wt.len ≤ 1152921504606846976) (hj : ruleIdx (pairEnt L l r).rule L = none) (hm : (L.length : Int) < most) (hL : L.length < 1048576) :
    Calls Tryz.prog 29 #[.pointer (some ⟨p, 0, none⟩), .int .i64 l, .int .i64 r] w fun e w' => e = .returned (.tuple #[.int .i64 ((L.length : Int) + 1), .nilIface]) ∧ Stepped w w' p mb most sv (L ++ [pairEnt L l r]) := by
  have CF := Lib.hid (fun w' (hf : Fr0 w w') => st_find_none (hS.kept0 hf) ⟨2, 0, l, r, 0⟩ hj hm)
  have K1 := Lib.hid (fun w' (hf : Fr0 w w') => st_known_yes (hS.kept0 hf) l hl)
  have K2 := Lib.hid (fun w' (hf : Fr0 w w') => st_known_yes (hS.kept0 hf) r hr)
  have a1 := fun w' (hf : Fr0 w w') => st_at (hS.kept0 hf) l hl
  have a2 := fun w' (hf : Fr0 w w') => st_at (hS.kept0 hf) r hr
  obtain ⟨v1, v2, v3, v4⟩ := hO.at l hl
  obtain ⟨u1, u2, u3, u4⟩ := hO.at r hr
  have q1 := v1.len0
  have q2 := u1.len0
  have cj : ∀ w', Calls Tryz.prog 51 #[.agg #[.int .i64 (entAt L l).wt.len, .int .i64 (entAt L l).wt.lines, .int .i64 (entAt L l).wt.head, .int .i64 (entAt L l).wt.tail, .int .u64 (entAt L l).wt.val, .int .u64 (entAt L l).wt.scale],
      .agg #[.int .i64 (entAt L r).wt.len, .int .i64 (entAt L r).wt.lines, .int .i64 (entAt L r).wt.head, .int .i64 (entAt L r).wt.tail, .int .u64 (entAt L r).wt.val, .int .u64 (entAt L r).wt.scale]] w'
      fun e w'' => e = .returned (.tuple #[.agg #[.int .i64 ((entAt L l).wt.join (entAt L r).wt).len, .int .i64 ((entAt L l).wt.join (entAt L r).wt).lines, .int .i64 ((entAt L l).wt.join (entAt L r).wt).head, .int .i64 ((entAt L l).wt.join (entAt L r).wt).tail, .int .u64 ((entAt L l).wt.join (entAt L r).wt).val, .int .u64 ((entAt L l).wt.join (entAt L r).wt).scale], .nilIface]) ∧ Fr0 w' w'' :=
    fun w' => wt_Join _ _ w' v1 u1 hlen
  have ca := fun (ev : Bool) (t : Wt) (d : Int) w' (hf : Fr0 w w') => st_add' (hS.kept0 hf) ⟨⟨2, 0, l, r, 0⟩, t, d, ev⟩ hj hL
  have hx : pairEnt L l r = ⟨⟨2, 0, l, r, 0⟩, (entAt L l).wt.join (entAt L r).wt, 1 + max (entAt L l).depth (entAt L r).depth,
    (entAt L l).even && (entAt L r).even && decide (-1 ≤ (entAt L l).depth - (entAt L r).depth) && decide ((entAt L l).depth - (entAt L r).depth ≤ 1)⟩ := rfl
  rw [hx]
  have LP := lt_of_block hS.ptr
  have LM := lt_of_block hS.mp
  have lv : ∀ k, sv.ownBlock = some k → k < w.heap.size := fun k hk => (hS.own.lt k hk).2
  have LV := Lib.hid lv
  generalize (entAt L l).wt.join (entAt L r).wt = t at *
  generalize entAt L l = x at *
  generalize entAt L r = y at *
  obtain ⟨ev, hev⟩ : ∃ b, (x.even && y.even && decide (-1 ≤ x.depth - y.depth) && decide (x.depth - y.depth ≤ 1)) = b := ⟨_, rfl⟩
  rw [hev]
  have HEV := Lib.hid hev
  have A1 := Lib.hid a1
  have A2 := Lib.hid a2
  have CJ := Lib.hid cj
  have CA := Lib.hid ca
  have hl0 : (l == 0) = false := by simpa using l0
  have hr0 : (r == 0) = false := by simpa using r0
  clear hS hj a1 a2 hO l0 r0 hl hr cj ca hx hev lv v1 v4 u1 u4
  go_enter Tryz.func29, Tryz.ntmps29
  go_wp2_with fail
  refine (K1.out _ (Fr0.refl w)).mono ?_
  rintro e w' ⟨rfl, rfl⟩
  go_wp2_with fail
  refine (K2.out _ (Fr0.refl w)).mono ?_
  rintro e w' ⟨rfl, rfl⟩
  go_wp2_with fail
  refine (A1.out _ (Fr0.refl w)).mono ?_
  rintro e w1 ⟨rfl, hf1⟩
  go_wp2_with fail
  refine (A2.out _ hf1).mono ?_
  rintro e w2 ⟨rfl, hf2⟩
  have hW2 := hf1.trans hf2
  clear hf1 hf2
  go_wp2_with fail
  refine (len_Add_ok _ _ _ q1 q2 hlen).mono ?_
  rintro e w' ⟨rfl, rfl⟩
  go_wp2_with fail
  refine (CF.out _ (((hW2.alloc _).alloc _).alloc _)).mono ?_
  rintro e w4 ⟨rfl, hf4⟩
  have hx4 := hf4.kept (alloc3_0 _ _ _ _)
  have hy4 := hf4.kept (alloc3_1 _ _ _ _)
  have hr4 := hf4.kept (alloc3_2 _ _ _ _)
  have hW4 := (((hW2.alloc _).alloc _).alloc _).trans hf4
  clear hf4 hW2 CF K1 K2 A1 A2
  generalize w2.heap.size = N at *
  clear w2
  obtain ⟨x5, x6, x7, x8, x9, x10, x11, x12, lx⟩ := cells13 hx4
  obtain ⟨y5, y6, y7, y8, y9, y10, y11, y12, ly⟩ := cells13 hy4
  obtain ⟨r1, r2, r3, r4, r5, lr⟩ := cells5 hr4
  go_wp2_with fail
  refine (CJ.out _).mono ?_
  rintro e w5 ⟨rfl, hf5⟩
  have hx5 := hf5.kept hx4
  have hy5 := hf5.kept hy4
  have hr5 := hf5.kept hr4
  have hW5 := hW4.trans hf5
  clear hf5 hW4 x5 x6 x7 x8 x9 x10 x11 x12 lx y5 y6 y7 y8 y9 y10 y11 y12 ly r1 r2 r3 r4 r5 lr hx4 hy4 hr4 CJ
  clear w4
  obtain ⟨x5, x6, x7, x8, x9, x10, x11, x12, lx⟩ := cells13 hx5
  obtain ⟨y5, y6, y7, y8, y9, y10, y11, y12, ly⟩ := cells13 hy5
  have hr5' : w5.heap[N + 1 + 1]? = some (.cells #[.int .i64 2, .int .u8 0, .int .i64 l, .int .i64 r, .int .i64 0] 42 (0, 0)) := hr5
  obtain ⟨r1, r2, r3, r4, r5, lr⟩ := cells5 hr5'
  clear hr5 hr5'
  clear x5 x6 x7 x8 x9 x10 y5 y6 y7 y8 y9 y10
  have n1 : ¬ w5.heap.size = N := by omega
  have n2 : ¬ w5.heap.size = N + 1 := by omega
  have n3 : ¬ w5.heap.size = N + 1 + 1 := by omega
  go_upto_region 21 with fail
  have fin : ∀ (b : Bool) (d : Int), b = ev → d = 1 + max x.depth y.depth → Hid (∀ w', Fr0 w w' → Calls Tryz.prog 44 #[.pointer (some ⟨p, 0, none⟩), .agg #[.int .i64 2, .int .u8 0, .int .i64 l, .int .i64 r, .int .i64 0, .int .i64 t.len, .int .i64 t.lines, .int .i64 t.head, .int .i64 t.tail, .int .u64 t.val, .int .u64 t.scale, .int .i64 d, .bool b]] w' fun e w'' => e = .returned (.int .i64 ((L.length : Int) + 1)) ∧ Stepped w' w'' p mb most sv (L ++ [⟨⟨2, 0, l, r, 0⟩, t, 1 + max x.depth y.depth, ev⟩])) :=
    fun b d hb hd => by subst hb; subst hd; exact fun w' hf => CA.out b t (1 + max x.depth y.depth) w' hf
  have FIN := Lib.hid fin
  clear CA fin
  by_cases hmax : x.depth < y.depth
  · cases hxe : x.even with
    | false =>
      rw [hxe] at x12
      have C := FIN.out false (1 + y.depth) (by rw [← HEV.out]; simp [hxe]) (by omega)
      clear FIN HEV
      go_wp2_with fail
      refine (C.out _ (hW5.alloc _)).mono ?_
      rintro e w6 ⟨rfl, hst⟩
      go_wp2_with fail
      go_ret2
      exact ⟨rfl, hst.before (hW5.alloc _)⟩
    | true =>
      rw [hxe] at x12
      cases hye : y.even with
      | false =>
        rw [hye] at y12
        have C := FIN.out false (1 + y.depth) (by rw [← HEV.out]; simp [hxe, hye]) (by omega)
        clear FIN HEV
        go_wp2_with fail
        refine (C.out _ (hW5.alloc _)).mono ?_
        rintro e w6 ⟨rfl, hst⟩
        go_wp2_with fail
        go_ret2
        exact ⟨rfl, hst.before (hW5.alloc _)⟩
      | true =>
        rw [hye] at y12
        by_cases hc1 : -1 ≤ x.depth - y.depth
        · have hc2 : x.depth - y.depth ≤ 1 := by omega
          have C := FIN.out true (1 + y.depth) (by rw [← HEV.out]; simp [hxe, hye, hc1, hc2]) (by omega)
          clear FIN HEV
          go_wp2_with fail
          refine (C.out _ (hW5.alloc _)).mono ?_
          rintro e w6 ⟨rfl, hst⟩
          go_wp2_with fail
          go_ret2
          exact ⟨rfl, hst.before (hW5.alloc _)⟩
        · have hd1 : decide (-1 ≤ x.depth - y.depth) = false := decide_eq_false hc1
          have C := FIN.out false (1 + y.depth) (by rw [← HEV.out]; simp [hxe, hye, hd1]) (by omega)
          clear FIN HEV
          go_wp2_with fail
          refine (C.out _ (hW5.alloc _)).mono ?_
          rintro e w6 ⟨rfl, hst⟩
          go_wp2_with fail
          go_ret2
          exact ⟨rfl, hst.before (hW5.alloc _)⟩
  · cases hxe : x.even with
    | false =>
      rw [hxe] at x12
      have C := FIN.out false (1 + x.depth) (by rw [← HEV.out]; simp [hxe]) (by omega)
      clear FIN HEV
      go_wp2_with fail
      refine (C.out _ (hW5.alloc _)).mono ?_
      rintro e w6 ⟨rfl, hst⟩
      go_wp2_with fail
      go_ret2
      exact ⟨rfl, hst.before (hW5.alloc _)⟩
    | true =>
      rw [hxe] at x12
      cases hye : y.even with
      | false =>
        rw [hye] at y12
        have C := FIN.out false (1 + x.depth) (by rw [← HEV.out]; simp [hxe, hye]) (by omega)
        clear FIN HEV
        go_wp2_with fail
        refine (C.out _ (hW5.alloc _)).mono ?_
        rintro e w6 ⟨rfl, hst⟩
        go_wp2_with fail
        go_ret2
        exact ⟨rfl, hst.before (hW5.alloc _)⟩
      | true =>
        rw [hye] at y12
        have hc1 : -1 ≤ x.depth - y.depth := by omega
        by_cases hc2 : x.depth - y.depth ≤ 1
        · have C := FIN.out true (1 + x.depth) (by rw [← HEV.out]; simp [hxe, hye, hc1, hc2]) (by omega)
          clear FIN HEV
          go_wp2_with fail
          refine (C.out _ (hW5.alloc _)).mono ?_
          rintro e w6 ⟨rfl, hst⟩
          go_wp2_with fail
          go_ret2
          exact ⟨rfl, hst.before (hW5.alloc _)⟩
        · have hd2 : decide (x.depth - y.depth ≤ 1) = false := decide_eq_false hc2
          have C := FIN.out false (1 + x.depth) (by rw [← HEV.out]; simp [hxe, hye, hc1, hd2]) (by omega)
          clear FIN HEV
          go_wp2_with fail
          refine (C.out _ (hW5.alloc _)).mono ?_
          rintro e w6 ⟨rfl, hst⟩
          go_wp2_with fail
          go_ret2
          exact ⟨rfl, hst.before (hW5.alloc _)⟩

end Go.Proofs.YtodmpcnpedpheaaGreatDoor

/- The walk of Pair, both cases. -/
set_option linter.unusedSimpArgs false
set_option linter.unusedVariables false
namespace Go.Proofs.YtodmpcnpedpheaaGreatDoor
open Go.RowKit

theorem st_Pair {w : World} {p mb : Nat} {most : Int} {sv : Value} {L : List Ent} (hS : St w p mb most sv L) (hO : SOk L) (l r : Int) (hl : isKnown L l) (hr : isKnown L r) (l0 : l ≠ 0) (r0 : r ≠ 0)
    (hlen : (entAt L l).wt.len + (entAt L r).wt.len ≤ 1152921504606846976) (hm : (L.length : Int) < most) (hL : L.length < 1048576) :
    Calls Tryz.prog 29 #[.pointer (some ⟨p, 0, none⟩), .int .i64 l, .int .i64 r] w fun e w' => e = .returned (.tuple #[.int .i64 (addI L (pairEnt L l r)), .nilIface]) ∧ Stepped w w' p mb most sv (addL L (pairEnt L l r)) := by
  cases hj : ruleIdx (pairEnt L l r).rule L with
  | some j =>
    rw [addI_some hj, addL_some hj]
    exact (st_Pair_some hS hO l r hl hr l0 r0 hlen j hj).mono fun e w' ⟨h1, h2⟩ => ⟨h1, Stepped.same hS h2⟩
  | none =>
    rw [addI_none hj, addL_none hj]
    exact st_Pair_none hS hO l r hl hr l0 r0 hlen hj hm hL

end Go.Proofs.YtodmpcnpedpheaaGreatDoor

/- The walks of balance.text and balance.Text. -/
set_option linter.unusedSimpArgs false
set_option linter.unusedVariables false
namespace Go.Proofs.YtodmpcnpedpheaaGreatDoor
open Go.RowKit

/-- Letters that lie in a row of bytes. -/
structure BytesAt (w : World) (bb off : Nat) (bs : List Int) : Prop where
  blk : ∃ cur fr, w.heap[bb]? = some (.cells cur 5 fr) ∧ ∀ i (h : i < bs.length), cur[off + i]? = some (.int .u8 bs[i])
  rng : ∀ x ∈ bs, 0 ≤ x ∧ x < 256

theorem BytesAt.cell {w : World} {bb off : Nat} {bs : List Int} (h : BytesAt w bb off bs) (i : Nat) (hi : i < bs.length) : w.cell? ⟨bb, off + i, none⟩ = some (.int .u8 bs[i]) := by
  obtain ⟨cur, fr, h1, h2⟩ := h.blk
  rw [cell_of_block h1]; exact h2 i hi

theorem BytesAt.take {w : World} {bb off : Nat} {bs : List Int} (h : BytesAt w bb off bs) (n : Nat) : BytesAt w bb off (bs.take n) := by
  obtain ⟨cur, fr, h1, h2⟩ := h.blk
  refine ⟨⟨cur, fr, h1, fun i hi => ?_⟩, fun x hx => h.rng x (List.mem_of_mem_take hx)⟩
  have : i < bs.length := by simp at hi; omega
  rw [h2 i this, List.getElem_take]

theorem BytesAt.drop {w : World} {bb off : Nat} {bs : List Int} (h : BytesAt w bb off bs) (n : Nat) : BytesAt w bb (off + n) (bs.drop n) := by
  obtain ⟨cur, fr, h1, h2⟩ := h.blk
  refine ⟨⟨cur, fr, h1, fun i hi => ?_⟩, fun x hx => h.rng x (List.mem_of_mem_drop hx)⟩
  have : n + i < bs.length := by simp at hi; omega
  rw [Nat.add_assoc, h2 (n + i) this, List.getElem_drop]

theorem Stepped.next {w w1 w' : World} {p mb : Nat} {most : Int} {sv sv1 : Value} {L2 : List Ent} (h2 : Fr (fun k => k = p ∨ k = mb ∨ sv.ownBlock = some k) w w1) (h3 : ∀ k, sv1.ownBlock = some k → sv.ownBlock = some k ∨ w.heap.size ≤ k)
    (k : Stepped w1 w' p mb most sv1 L2) : Stepped w w' p mb most sv L2 := by
  obtain ⟨sv2, k1, k2, k3⟩ := k
  refine ⟨sv2, k1, Fr.trans h2 k2 ?_, ?_⟩
  · rintro i (hi | hi | hi) hlt
    · exact .inl hi
    · exact .inr (.inl hi)
    · exact (h3 i hi).elim (fun h => .inr (.inr h)) (fun h => by omega)
  · intro i hi
    rcases k3 i hi with h | h
    · exact h3 i h
    · exact .inr (by have := h2.size; omega)

/-- A block of another type than a store's is as it was. -/
theorem Stepped.block {w w' : World} {p mb : Nat} {most : Int} {sv : Value} {L L' : List Ent} (hS : St w p mb most sv L) (h : Stepped w w' p mb most sv L') {b : Nat} {cs : Array Value} {t : TypeId} {f : Nat × Nat}
    (hb : w.heap[b]? = some (.cells cs t f)) (h1 : t ≠ 77) (h2 : t ≠ 129) : w'.heap[b]? = some (.cells cs t f) := by
  obtain ⟨sv', _, hf, _⟩ := h
  refine hf.kept hb ?_
  rintro (e | e | e)
  · rw [e, hS.ptr] at hb; simp at hb; exact h1 hb.2.1.symm
  · rw [e, hS.mp] at hb; simp at hb
  · rcases hS.own.2 with ⟨e1, _⟩ | ⟨g, cap, cur, e1, _, hg, _⟩
    · rw [e1] at e; simp [Value.ownBlock] at e
    · rw [e1] at e
      simp [Value.ownBlock] at e
      subst e
      rw [hg] at hb; simp at hb; exact h2 hb.2.1.symm

theorem Stepped.bytes {w w' : World} {p mb : Nat} {most : Int} {sv : Value} {L L' : List Ent} (hS : St w p mb most sv L) (h : Stepped w w' p mb most sv L') {bb off : Nat} {bs : List Int} (hb : BytesAt w bb off bs) : BytesAt w' bb off bs := by
  obtain ⟨cur, fr, h1, h2⟩ := hb.blk
  exact ⟨⟨cur, fr, h.block hS h1 (by decide) (by decide), h2⟩, hb.rng⟩

set_option maxRecDepth 100000 in
set_option maxHeartbeats 1000000 in
theorem bal_text : ∀ (f : Nat) (w : World) (p mb : Nat) (most : Int) (sv : Value) (L : List Ent) (bb off n cap : Nat) (bs : List Int), St w p mb most sv L → SOk L → DOk L → BytesAt w bb off bs → bs.length = n → 1 ≤ n → n ≤ f → n ≤ 65536 → n ≤ cap → cap ≤ 9223372036854775807 →
    ((L.length + 2 * n : Nat) : Int) ≤ most → L.length + 2 * n ≤ 1048576 →
    Calls Tryz.prog 111 #[.pointer (some ⟨p, 0, none⟩), .slice (some ⟨bb, off, none⟩) n cap] w fun e w' => e = .returned (.tuple #[.int .i64 (textR f L bs).2, .nilIface]) ∧ Stepped w w' p mb most sv (textR f L bs).1 := by
  intro f
  induction f with
  | zero => intro w p mb most sv L bb off n cap bs _ _ _ _ _ h1 h2; omega
  | succ f ih =>
    intro w p mb most sv L bb off n cap bs hS hO hD hB hlen h1 h2 h3 hc hc2 hm hL
    by_cases hn : n = 1
    · have e1 : (textR (f + 1) L bs) = (addL L (letterEnt (bs.getD 0 0)), addI L (letterEnt (bs.getD 0 0))) := by
        unfold textR; rw [if_pos (by omega)]
      rw [e1]
      have e2 : bs.getD 0 0 = bs[0]'(by omega) := by rw [List.getD_eq_getElem?_getD, List.getElem?_eq_getElem (by omega)]; rfl
      rw [e2]
      have hr := hB.rng (bs[0]'(by omega)) (List.getElem_mem _)
      have CL := Lib.hid (st_Letter hS (bs[0]'(by omega)) hr.1 hr.2 (by omega) (by omega))
      have hb0 := hB.cell 0 (by omega)
      rw [Nat.add_zero] at hb0
      generalize bs[0]'(by omega) = b at *
      subst hn
      clear ih hS hO hD hB e1 e2 hm hlen
      go_enter Tryz.func111, Tryz.ntmps111
      go_wp2_with fail
      refine CL.out.mono ?_
      rintro e w1 ⟨rfl, hst⟩
      go_wp2_with fail
      go_ret2
      exact ⟨rfl, hst⟩
    · have e1 : (textR (f + 1) L bs) = (addL (textR f (textR f L (bs.take (n / 2))).1 (bs.drop (n / 2))).1 (pairEnt (textR f (textR f L (bs.take (n / 2))).1 (bs.drop (n / 2))).1 (textR f L (bs.take (n / 2))).2 (textR f (textR f L (bs.take (n / 2))).1 (bs.drop (n / 2))).2), addI (textR f (textR f L (bs.take (n / 2))).1 (bs.drop (n / 2))).1 (pairEnt (textR f (textR f L (bs.take (n / 2))).1 (bs.drop (n / 2))).1 (textR f L (bs.take (n / 2))).2 (textR f (textR f L (bs.take (n / 2))).1 (bs.drop (n / 2))).2)) := by
        conv => lhs; unfold textR
        rw [if_neg (by omega), hlen]
      rw [e1]
      have la : (bs.take (n / 2)).length = n / 2 := by simp; omega
      have lb : (bs.drop (n / 2)).length = n - n / 2 := by simp; omega
      have ta := textR_ok f L (bs.take (n / 2)) hO hD (by omega) (by omega) (by omega) (hB.take _).rng
      have tb := textR_ok f (textR f L (bs.take (n / 2))).1 (bs.drop (n / 2)) ta.sok ta.dok (by omega) (by omega) (by omega) (hB.drop _).rng
      rw [la] at ta
      rw [lb] at tb
      have c1 := ih w p mb most sv L bb off (n / 2) cap (bs.take (n / 2)) hS hO hD (hB.take _) la (by omega) (by omega) (by omega) (by omega) hc2 (by omega) (by omega)
      have hla := ta.len
      have hlb := tb.len
      have c2 := fun w1 sv1 (h : St w1 p mb most sv1 (textR f L (bs.take (n / 2))).1) (hb : BytesAt w1 bb off bs) => ih w1 p mb most sv1 _ bb (off + n / 2) (n - n / 2) (cap - n / 2) (bs.drop (n / 2)) h ta.sok ta.dok (hb.drop _) lb (by omega) (by omega) (by omega) (by omega) (by omega) (by omega) (by omega)
      obtain ⟨M2, eM⟩ := tb.ext
      have ka : isKnown (textR f (textR f L (bs.take (n / 2))).1 (bs.drop (n / 2))).1 (textR f L (bs.take (n / 2))).2 := by rw [eM]; exact isKnown_append M2 ta.known
      have ea : entAt (textR f (textR f L (bs.take (n / 2))).1 (bs.drop (n / 2))).1 (textR f L (bs.take (n / 2))).2 = entAt (textR f L (bs.take (n / 2))).1 (textR f L (bs.take (n / 2))).2 := by rw [eM]; exact entAt_append _ M2 _ ta.known
      have hw1 := ta.wlen
      have hw2 := tb.wlen
      have c3 := fun w2 sv2 (h : St w2 p mb most sv2 (textR f (textR f L (bs.take (n / 2))).1 (bs.drop (n / 2))).1) => st_Pair h tb.sok _ _ ka tb.known ta.ne tb.ne (by rw [ea, hw1, hw2]; omega) (by omega) (by omega)
      have hB0 := fun w1 (h : Stepped w w1 p mb most sv (textR f L (bs.take (n / 2))).1) => h.bytes hS hB
      have C1 := Lib.hid c1
      have C2 := Lib.hid c2
      have C3 := Lib.hid c3
      have HB := Lib.hid hB0
      clear c1 c2 c3 hB0 ea ka hw1 hw2 eM ta tb hO hD hB hS ih e1 hla hlb la lb hm hlen
      generalize (textR f (textR f L (bs.take (n / 2))).1 (bs.drop (n / 2))).2 = idb at *
      generalize (textR f (textR f L (bs.take (n / 2))).1 (bs.drop (n / 2))).1 = LB at *
      generalize (textR f L (bs.take (n / 2))).2 = ida at *
      generalize (textR f L (bs.take (n / 2))).1 = LA at *
      have hn1 : ((n : Int) == 1) = false := by simp; omega
      have hb1 : (0 : Int) ≤ (n : Int) / 2 := by omega
      have hb2 : (n : Int) / 2 ≤ (cap : Int) := by omega
      have hb3 : (n : Int) / 2 ≤ (n : Int) := by omega
      go_enter Tryz.func111, Tryz.ntmps111
      go_wp2_with fail
      refine C1.out.mono ?_
      rintro e w1 ⟨rfl, hst1⟩
      have hb := HB.out w1 hst1
      obtain ⟨sv1, hS1, hf1, hv1⟩ := hst1
      have D2 := Lib.hid (C2.out w1 sv1 hS1 hb)
      have HF1 := Lib.hid hf1
      have HV1 := Lib.hid hv1
      clear hb hS1 hf1 hv1 C2 HB C1
      go_wp2_with fail
      refine D2.out.mono ?_
      rintro e w2 ⟨rfl, hst2⟩
      obtain ⟨sv2, hS2, hf2, hv2⟩ := hst2
      have D3 := Lib.hid (C3.out w2 sv2 hS2)
      have HF2 := Lib.hid hf2
      have HV2 := Lib.hid hv2
      clear D2 hS2 hf2 hv2 C3
      go_wp2_with fail
      refine D3.out.mono ?_
      rintro e w3 ⟨rfl, hst3⟩
      go_wp2_with fail
      go_ret2
      exact ⟨rfl, Stepped.next HF1.out HV1.out (Stepped.next HF2.out HV2.out hst3)⟩

set_option maxRecDepth 100000 in
set_option maxHeartbeats 1000000 in
theorem bal_Text {w : World} {p mb : Nat} {most : Int} {sv : Value} {L : List Ent} (hS : St w p mb most sv L) (hO : SOk L) (hD : DOk L) (bb off n cap : Nat) (bs : List Int) (hB : BytesAt w bb off bs) (hlen : bs.length = n) (h1 : 1 ≤ n) (h3 : n ≤ 65536) (hc : n ≤ cap) (hc2 : cap ≤ 9223372036854775807)
    (hm : ((L.length + 2 * n : Nat) : Int) ≤ most) (hL : L.length + 2 * n ≤ 1048576) :
    Calls Tryz.prog 86 #[.pointer (some ⟨p, 0, none⟩), .slice (some ⟨bb, off, none⟩) n cap] w fun e w' => e = .returned (.tuple #[.int .i64 (textR n L bs).2, .nilIface]) ∧ Stepped w w' p mb most sv (textR n L bs).1 := by
  have C1 := Lib.hid (bal_text n w p mb most sv L bb off n cap bs hS hO hD hB hlen h1 (Nat.le_refl _) h3 hc hc2 hm hL)
  have hn0 : ((n : Int) == 0) = false := by simp; omega
  clear hS hO hD hB hlen hm hL
  generalize (textR n L bs).2 = id at *
  generalize (textR n L bs).1 = LB at *
  go_enter Tryz.func86, Tryz.ntmps86
  go_wp2_with fail
  refine C1.out.mono ?_
  rintro e w1 ⟨rfl, hst1⟩
  go_wp2_with fail
  go_ret2
  exact ⟨rfl, hst1⟩

set_option maxRecDepth 100000 in
set_option maxHeartbeats 1000000 in
theorem bal_Text_nil {w : World} {p : Nat} (a : Option Addr) (cap : Nat) :
    Calls Tryz.prog 86 #[.pointer (some ⟨p, 0, none⟩), .slice a 0 cap] w fun e w' => e = .returned (.tuple #[.int .i64 0, .nilIface]) ∧ w = w' := by
  go_enter Tryz.func86, Tryz.ntmps86
  go_wp2_with fail
  go_ret2
  exact ⟨rfl, rfl⟩

end Go.Proofs.YtodmpcnpedpheaaGreatDoor

/- The walks of Store.Rule and of package avl. -/
set_option linter.unusedSimpArgs false
set_option linter.unusedVariables false
namespace Go.Proofs.YtodmpcnpedpheaaGreatDoor
open Go.RowKit

set_option maxRecDepth 100000 in
set_option maxHeartbeats 400000 in
theorem st_Rule_cell (p lb n cap k : Nat) (id : Int) (x : Ent) (w : World) (hid : id = (k : Int) + 1) (hk : k < n) (hn : n ≤ 1048576)
    (hK : ∀ W, Fr0 w W → Calls Tryz.prog 46 #[.pointer (some ⟨p, 0, none⟩), .int .i64 id] W fun e w' => e = .returned (.bool true) ∧ W = w')
    (hp : w.cell? ⟨p, 1, none⟩ = some (.slice (some ⟨lb, 0, none⟩) n cap))
    (h0 : w.cell? ⟨lb, k * 13, none⟩ = some (.int .i64 x.rule.kind))
    (h1 : w.cell? ⟨lb, k * 13 + 1, none⟩ = some (.int .u8 x.rule.letter))
    (h2 : w.cell? ⟨lb, k * 13 + 2, none⟩ = some (.int .i64 x.rule.left))
    (h3 : w.cell? ⟨lb, k * 13 + 3, none⟩ = some (.int .i64 x.rule.right))
    (h4 : w.cell? ⟨lb, k * 13 + 4, none⟩ = some (.int .i64 x.rule.times)) :
    Calls Tryz.prog 106 #[.pointer (some ⟨p, 0, none⟩), .int .i64 id] w fun e w' => e = .returned (.tuple #[.agg #[.int .i64 x.rule.kind, .int .u8 x.rule.letter, .int .i64 x.rule.left, .int .i64 x.rule.right, .int .i64 x.rule.times], .nilIface]) ∧ Fr0 w w' := by
  subst hid
  have lp := World.block_lt_of_cell? w _ hp
  have ll := World.block_lt_of_cell? w _ h0
  have CK := Lib.hid hK
  have hz : (((k : Int) + 1) == 0) = false := by simp; omega
  clear hK
  go_enter Tryz.func106, Tryz.ntmps106
  go_wp2_with fail
  refine (CK.out _ ((Fr0.refl w).alloc _)).mono ?_
  rintro e w' ⟨rfl, rfl⟩
  go_wp2_with fail
  exact bodyPost_ret (v := .tuple #[.agg #[.int .i64 x.rule.kind, .int .u8 x.rule.letter, .int .i64 x.rule.left, .int .i64 x.rule.right, .int .i64 x.rule.times], .nilIface]) (by simp [results, Tryz.results106, go_sem]) rfl
    ⟨rfl, by (repeat' (first | (with_reducible exact Fr0.refl _) | (with_reducible refine Fr0.setCell ?_ _ _ ?_) | (with_reducible refine Fr0.alloc ?_ _) | (with_reducible refine Fr0.drew ?_))) <;> first | omega | (dsimp only; omega) | (simp; done) | (simp; omega)⟩

theorem st_Rule {w : World} {p mb : Nat} {most : Int} {sv : Value} {L : List Ent} (hS : St w p mb most sv L) (id : Int) (h : isKnown L id) (h0 : id ≠ 0) :
    Calls Tryz.prog 106 #[.pointer (some ⟨p, 0, none⟩), .int .i64 id] w fun e w' => e = .returned (.tuple #[.agg #[.int .i64 (entAt L id).rule.kind, .int .u8 (entAt L id).rule.letter, .int .i64 (entAt L id).rule.left, .int .i64 (entAt L id).rule.right, .int .i64 (entAt L id).rule.times], .nilIface]) ∧ Fr0 w w' := by
  have hK := fun W (hW : Fr0 w W) => st_known_yes (hS.kept0 hW) id h
  obtain ⟨h1, h2⟩ := h
  obtain ⟨k, hk⟩ : ∃ k : Nat, id = (k : Int) + 1 := ⟨(id - 1).toNat, by omega⟩
  subst hk
  have hlt : k < L.length := by omega
  obtain ⟨lb, cap, rfl, hc⟩ := owned_ent hS (List.getElem?_eq_getElem hlt)
  rw [entAt_succ L k hlt]
  exact st_Rule_cell p lb L.length cap k _ L[k] w rfl hlt hS.big hK (cells3 hS.ptr).2.1 (hc 0 _ rfl) (hc 1 _ rfl) (hc 2 _ rfl) (hc 3 _ rfl) (hc 4 _ rfl)

/-- What was there is as it was, but for the blocks of the store p (its map is mb; all its blocks lie from B on). -/
structure Kp (B mb : Nat) (w w' : World) : Prop where
  os : w'.os = w.os
  tape : w'.tape = w.tape
  output : w'.output = w.output
  size : w.heap.size ≤ w'.heap.size
  low : ∀ k : Nat, k < B → k < w.heap.size → w'.heap[k]? = w.heap[k]?
  cells : ∀ (k : Nat) (cs : Array Value) (t : TypeId) (f : Nat × Nat), w.heap[k]? = some (Obj.cells cs t f) → t ≠ 77 → t ≠ 129 → w'.heap[k]? = some (.cells cs t f)
  maps : ∀ (k : Nat) (es : Array MapEntry) (n : Nat), w.heap[k]? = some (Obj.map es n) → k ≠ mb → w'.heap[k]? = some (.map es n)

theorem Kp.refl (B mb : Nat) (w : World) : Kp B mb w w := ⟨rfl, rfl, rfl, Nat.le_refl _, fun _ _ _ => rfl, fun _ _ _ _ h _ _ => h, fun _ _ _ h _ => h⟩
theorem Kp.trans {B mb : Nat} {a b c : World} (h : Kp B mb a b) (k : Kp B mb b c) : Kp B mb a c :=
  ⟨k.os.trans h.os, k.tape.trans h.tape, k.output.trans h.output, Nat.le_trans h.size k.size,
    fun i h1 h2 => (k.low i h1 (Nat.lt_of_lt_of_le h2 h.size)).trans (h.low i h1 h2),
    fun i cs t f h1 h2 h3 => k.cells i cs t f (h.cells i cs t f h1 h2 h3) h2 h3, fun i es n h1 h2 => k.maps i es n (h.maps i es n h1 h2) h2⟩
theorem Kp.of0 {B mb : Nat} {w w' : World} (h : Fr0 w w') : Kp B mb w w' :=
  ⟨h.os, h.tape, h.output, h.size, fun i _ h2 => h.block i h2 id, fun _ _ _ _ h1 _ _ => h.kept h1, fun _ _ _ h1 _ => h.kept h1⟩
theorem Kp.below {B mb : Nat} {w w' : World} (h : Kp B mb w w') (hB : B ≤ w.heap.size) : Below B w w' :=
  ⟨h.os, h.tape, h.output, h.size, fun k hk => h.low k hk (by omega)⟩
theorem Kp.owns {B mb : Nat} {w w' : World} (h : Kp B mb w w') {base : Nat} {e : TypeId} {size n : Nat} {v : Value} {xs : List Value}
    (ho : w.ownsRow base e size v n xs) (h1 : e ≠ 77) (h2 : e ≠ 129) : w'.ownsRow base e size v n xs := by
  refine ⟨ho.1, ?_⟩
  rcases ho.2 with h3 | ⟨g, cap, cur, h3, hb, hg, r⟩
  · exact .inl h3
  · exact .inr ⟨g, cap, cur, h3, hb, h.cells _ _ _ _ hg h1 h2, r⟩

/-- A store whose blocks lie from B on. -/
def Sto (B : Nat) (w : World) (p mb : Nat) (most : Int) (L : List Ent) : Prop := ∃ sv, St w p mb most sv L ∧ B ≤ p ∧ B ≤ mb ∧ ∀ k, sv.ownBlock = some k → B ≤ k

theorem Sto.kept0 {B : Nat} {w w' : World} {p mb : Nat} {most : Int} {L : List Ent} (h : Sto B w p mb most L) (hf : Fr0 w w') : Sto B w' p mb most L := by
  obtain ⟨sv, h1, h2⟩ := h
  exact ⟨sv, h1.kept0 hf, h2⟩

theorem Sto.step {B : Nat} {w w' : World} {p mb : Nat} {most : Int} {sv : Value} {L L' : List Ent} (hS : St w p mb most sv L) (h1 : B ≤ p) (h2 : B ≤ mb) (h3 : ∀ k, sv.ownBlock = some k → B ≤ k) (hB : B ≤ w.heap.size) (h : Stepped w w' p mb most sv L') :
    Sto B w' p mb most L' ∧ Kp B mb w w' := by
  have hb := @Stepped.block w w' p mb most sv L L' hS h
  obtain ⟨sv', hS', hf, hv⟩ := h
  refine ⟨⟨sv', hS', h1, h2, fun k hk => (hv k hk).elim (h3 k) (fun h => by omega)⟩, ⟨hf.os, hf.tape, hf.output, hf.size, fun k hk hlt => hf.block k hlt ?_, fun k cs t f e n1 n2 => hb e n1 n2, fun k es n e ne => hf.kept e ?_⟩⟩
  · rintro (e | e | e)
    · omega
    · omega
    · have := h3 k e; omega
  · rintro (e' | e' | e')
    · rw [e', hS.ptr] at e; simp at e
    · exact ne e'
    · rcases hS.own.2 with ⟨e1, _⟩ | ⟨g, cap, cur, e1, _, hg, _⟩
      · rw [e1] at e'; simp [Value.ownBlock] at e'
      · rw [e1] at e'
        simp [Value.ownBlock] at e'
        subst e'
        rw [hg] at e; simp at e

/-- A store with room for n rules more. -/
structure Room (B : Nat) (w : World) (p mb : Nat) (most : Int) (L : List Ent) (n : Nat) : Prop where
  st : Sto B w p mb most L
  base : B ≤ w.heap.size
  sok : SOk L
  dok : DOk L
  most : ((L.length + n : Nat) : Int) ≤ most
  big : L.length + n ≤ 1048576

theorem Room.kept0 {B : Nat} {w w' : World} {p mb : Nat} {most : Int} {L : List Ent} {n : Nat} (h : Room B w p mb most L n) (hf : Fr0 w w') : Room B w' p mb most L n := ⟨h.st.kept0 hf, Nat.le_trans h.base hf.size, h.sok, h.dok, h.most, h.big⟩
theorem Room.next {B : Nat} {w w' : World} {p mb : Nat} {most : Int} {L L' : List Ent} {n m k : Nat} (h : Room B w p mb most L n) (hS : Sto B w' p mb most L') (hK : Kp B mb w w') (hg : Grows L L' m) (hk : m + k ≤ n) : Room B w' p mb most L' k :=
  ⟨hS, Nat.le_trans h.base hK.size, hg.sok, hg.dok, by have := h.most; have := hg.len; omega, by have := h.big; have := hg.len; omega⟩

theorem Grows.le {A B : List Ent} {m n : Nat} (h : Grows A B m) (hk : m ≤ n) : Grows A B n := ⟨h.ext, by have := h.len; omega, h.sok, h.dok⟩

theorem sto_Weight {B : Nat} {w : World} {p mb : Nat} {most : Int} {L : List Ent} (h : Sto B w p mb most L) (id : Int) (hk : isKnown L id) :
    Calls Tryz.prog 58 #[.pointer (some ⟨p, 0, none⟩), .int .i64 id] w fun e w' => e = .returned (.tuple #[.agg #[.int .i64 (entAt L id).wt.len, .int .i64 (entAt L id).wt.lines, .int .i64 (entAt L id).wt.head, .int .i64 (entAt L id).wt.tail, .int .u64 (entAt L id).wt.val, .int .u64 (entAt L id).wt.scale], .nilIface]) ∧ Fr0 w w' := by
  obtain ⟨sv, hS, _⟩ := h; exact st_Weight hS id hk
theorem sto_Rule {B : Nat} {w : World} {p mb : Nat} {most : Int} {L : List Ent} (h : Sto B w p mb most L) (id : Int) (hk : isKnown L id) (h0 : id ≠ 0) :
    Calls Tryz.prog 106 #[.pointer (some ⟨p, 0, none⟩), .int .i64 id] w fun e w' => e = .returned (.tuple #[.agg #[.int .i64 (entAt L id).rule.kind, .int .u8 (entAt L id).rule.letter, .int .i64 (entAt L id).rule.left, .int .i64 (entAt L id).rule.right, .int .i64 (entAt L id).rule.times], .nilIface]) ∧ Fr0 w w' := by
  obtain ⟨sv, hS, _⟩ := h; exact st_Rule hS id hk h0

/-- A call that makes a balanced text; D: its depth and the number of new rules. -/
def APost (B : Nat) (w : World) (p mb : Nat) (most : Int) (L : List Ent) (t : List Int) (D : Int → Nat → Prop) (e : Ending) (w' : World) : Prop :=
  ∃ L' id d k, e = .returned (.tuple #[.int .i64 id, .nilIface]) ∧ Sto B w' p mb most L' ∧ Kp B mb w w' ∧ Grows L L' k ∧ Bal L' id t d ∧ D d k

theorem APost.mono {B : Nat} {w : World} {p mb : Nat} {most : Int} {L : List Ent} {t u : List Int} {D E : Int → Nat → Prop} {e : Ending} {w' : World} (h : APost B w p mb most L t D e w') (ht : t = u) (hD : ∀ d k, D d k → E d k) : APost B w p mb most L u E e w' := by
  obtain ⟨L', id, d, k, h1, h2, h3, h4, h5, h6⟩ := h
  subst ht
  exact ⟨L', id, d, k, h1, h2, h3, h4, h5, hD d k h6⟩
theorem APost.before {B : Nat} {w w1 : World} {p mb : Nat} {most : Int} {L : List Ent} {t : List Int} {D : Int → Nat → Prop} {e : Ending} {w' : World} (h0 : Fr0 w w1) (h : APost B w1 p mb most L t D e w') : APost B w p mb most L t D e w' := by
  obtain ⟨L', id, d, k, h1, h2, h3, h4, h5, h6⟩ := h
  exact ⟨L', id, d, k, h1, h2, (Kp.of0 h0).trans h3, h4, h5, h6⟩
/-- Behind a call that made rules. -/
theorem APost.next {B : Nat} {w w1 : World} {p mb : Nat} {most : Int} {L L1 : List Ent} {k1 : Nat} {t : List Int} {D E : Int → Nat → Prop} {e : Ending} {w' : World} (hK : Kp B mb w w1) (hg : Grows L L1 k1) (h : APost B w1 p mb most L1 t D e w') (hD : ∀ d k, D d k → E d (k1 + k)) : APost B w p mb most L t E e w' := by
  obtain ⟨L', id, d, k, h1, h2, h3, h4, h5, h6⟩ := h
  exact ⟨L', id, d, k1 + k, h1, h2, hK.trans h3, hg.trans h4 (Nat.le_refl _), h5, hD d k h6⟩

end Go.Proofs.YtodmpcnpedpheaaGreatDoor

/- The keys of a store's rules (plain): which rules are signature rules, what a row of the table may hold; letters are unique. -/
set_option linter.unusedSimpArgs false
set_option linter.unusedVariables false
namespace Go.Proofs.YtodmpcnpedpheaaGreatDoor
open Go.RowKit

/-- A row of the table of keys. -/
structure KRow where
  key : Int
  lev : Int
  kn : Bool
deriving DecidableEq, Inhabited

def KRow.vals (r : KRow) : List Value := [.int .u64 r.key, .int .i64 r.lev, .bool r.kn]

/-- The key of a rule, mixed. -/
def mixI (k x y : Int) : Int := ((k + (1234567890123456789 * x % PP + 987654321987654321 * y % PP) % PP) % PP) ^ 17 % PP

theorem mixI_rng (k x y : Int) : 0 ≤ mixI k x y ∧ mixI k x y < 2305843009213693951 := pp_lt _

/-- Do two keys fit a number of a pair level? -/
def fitB (c : Nat) (x y : Int) : Bool := if c = 122 then x == y else (x.toNat.testBit (c / 2) == (c % 2 == 1)) && (y.toNat.testBit (c / 2) == (c % 2 == 0))

/-- The least number, from c on, that two keys fit. -/
def fitN (x y : Int) : Nat → Nat → Option Nat
  | 0, _ => none
  | f + 1, c => if fitB c x y then some c else fitN x y f (c + 1)

/-- The least pair level above low that two keys fit; 0 if there is none. -/
def aftI (low x y : Int) : Int :=
  match fitN x y (123 - (low / 2).toNat % 123) ((low / 2).toNat % 123) with
  | some n => 2 * (low / 2 + 1 + n - ((low / 2).toNat % 123 : Nat))
  | none => match fitN x y 123 0 with
    | some n => 2 * (low / 2 + 1 + n - ((low / 2).toNat % 123 : Nat) + 123)
    | none => 0

/-- The key and the level of a rule. -/
def klF : Nat → List Ent → Int → Int × Int
  | 0, _, _ => (0, -1)
  | k + 1, L, id =>
    if (entAt L id).rule.kind = 1 then (mixI 1 (entAt L id).rule.letter 0, 0)
    else if (entAt L id).rule.kind = 2 then
      (mixI 2 (klF k L (entAt L id).rule.left).1 (klF k L (entAt L id).rule.right).1,
        if (entAt L id).rule.left ≠ (entAt L id).rule.right ∧ 0 ≤ (klF k L (entAt L id).rule.left).2 ∧ 0 ≤ (klF k L (entAt L id).rule.right).2 then
          aftI (max (klF k L (entAt L id).rule.left).2 (klF k L (entAt L id).rule.right).2) (klF k L (entAt L id).rule.left).1 (klF k L (entAt L id).rule.right).1 else -1)
    else (mixI 3 (klF k L (entAt L id).rule.left).1 (entAt L id).rule.times,
      if 0 ≤ (klF k L (entAt L id).rule.left).2 ∧ (klF k L (entAt L id).rule.left).2 % 2 = 0 then (klF k L (entAt L id).rule.left).2 + 1 else -1)

def klev (L : List Ent) (id : Int) : Int := (klF id.toNat L id).2
def kkey (L : List Ent) (id : Int) : Int := (klF id.toNat L id).1

/-- What a row that is known holds. -/
def rowOk (L : List Ent) (id : Int) (r : KRow) : Prop := r.key = kkey L id ∧ r.lev = klev L id

def TabOk (L : List Ent) (T : List KRow) : Prop := ∀ (i : Nat) (h : i < T.length), (T[i].kn = true → 1 ≤ i ∧ i ≤ L.length ∧ rowOk L i T[i]) ∧ (T[i].kn = false → T[i] = ⟨0, 0, false⟩)

/-- With enough fuel it does not matter. -/
theorem klF_fuel {L : List Ent} (hD : DOk L) : ∀ (k : Nat) (id : Int), isKnown L id → id ≠ 0 → id.toNat ≤ k → klF k L id = klF id.toNat L id := by
  intro k
  induction k using Nat.strongRecOn with
  | _ k ih =>
    intro id hk h0 hle
    have h1 := hk.1
    have hpos : 1 ≤ id.toNat := by omega
    obtain ⟨m, hm⟩ : ∃ m, k = m + 1 := ⟨k - 1, by omega⟩
    obtain ⟨n, hn⟩ : ∃ n, id.toNat = n + 1 := ⟨id.toNat - 1, by omega⟩
    subst hm
    rw [hn]
    have ch : ∀ c : Int, 1 ≤ c → c < id → klF m L c = klF n L c := by
      intro c c1 c2
      have hc : isKnown L c := ⟨by omega, by have := hk.2; omega⟩
      rw [ih m (by omega) c hc (by omega) (by omega), ih n (by omega) c hc (by omega) (by omega)]
    unfold klF
    rcases hD.at id hk h0 with ⟨g1, _⟩ | ⟨g1, g2, _⟩ | ⟨g1, g2, _⟩
    · rw [if_pos g1, if_pos g1]
    · rw [ch _ g2.1 g2.2.1, ch _ g2.2.2.1 g2.2.2.2]
    · have n1 : ¬ (entAt L id).rule.kind = 1 := by rw [g1]; decide
      have n2 : ¬ (entAt L id).rule.kind = 2 := by rw [g1]; decide
      rw [if_neg n1, if_neg n2, if_neg n1, if_neg n2, ch _ g2.1 g2.2]

/-- The key and the level of a letter, a pair, a power. -/
theorem kl_letter {L : List Ent} {id : Int} (h0 : 1 ≤ id) (h : (entAt L id).rule.kind = 1) : kkey L id = mixI 1 (entAt L id).rule.letter 0 ∧ klev L id = 0 := by
  unfold kkey klev
  obtain ⟨n, hn⟩ : ∃ n, id.toNat = n + 1 := ⟨id.toNat - 1, by omega⟩
  rw [hn]; unfold klF; rw [if_pos h]; exact ⟨rfl, rfl⟩

theorem kl_pair {L : List Ent} (hD : DOk L) {id : Int} (hk : isKnown L id) (h0 : id ≠ 0) (h : (entAt L id).rule.kind = 2) :
    kkey L id = mixI 2 (kkey L (entAt L id).rule.left) (kkey L (entAt L id).rule.right) ∧
    klev L id = if (entAt L id).rule.left ≠ (entAt L id).rule.right ∧ 0 ≤ klev L (entAt L id).rule.left ∧ 0 ≤ klev L (entAt L id).rule.right then
      aftI (max (klev L (entAt L id).rule.left) (klev L (entAt L id).rule.right)) (kkey L (entAt L id).rule.left) (kkey L (entAt L id).rule.right) else -1 := by
  have h1 := hk.1
  have h2 := hk.2
  rcases hD.at id hk h0 with ⟨g1, _⟩ | ⟨_, g2, _⟩ | ⟨g1, _⟩
  · rw [h] at g1; exact absurd g1 (by decide)
  · obtain ⟨n, hn⟩ : ∃ n, id.toNat = n + 1 := ⟨id.toNat - 1, by omega⟩
    have ea := klF_fuel hD n (entAt L id).rule.left ⟨by omega, by omega⟩ (by omega) (by omega)
    have eb := klF_fuel hD n (entAt L id).rule.right ⟨by omega, by omega⟩ (by omega) (by omega)
    have hw : klF id.toNat L id = (mixI 2 (kkey L (entAt L id).rule.left) (kkey L (entAt L id).rule.right), if (entAt L id).rule.left ≠ (entAt L id).rule.right ∧ 0 ≤ klev L (entAt L id).rule.left ∧ 0 ≤ klev L (entAt L id).rule.right then
        aftI (max (klev L (entAt L id).rule.left) (klev L (entAt L id).rule.right)) (kkey L (entAt L id).rule.left) (kkey L (entAt L id).rule.right) else -1) := by
      rw [hn]
      show klF (n + 1) L id = _
      rw [klF, if_neg (by rw [h]; decide), if_pos h, ea, eb]
      rfl
    unfold kkey klev at *
    rw [hw]
    exact ⟨rfl, rfl⟩
  · rw [h] at g1; exact absurd g1 (by decide)

theorem kl_power {L : List Ent} (hD : DOk L) {id : Int} (hk : isKnown L id) (h0 : id ≠ 0) (h : (entAt L id).rule.kind = 3) :
    kkey L id = mixI 3 (kkey L (entAt L id).rule.left) (entAt L id).rule.times ∧
    klev L id = if 0 ≤ klev L (entAt L id).rule.left ∧ klev L (entAt L id).rule.left % 2 = 0 then klev L (entAt L id).rule.left + 1 else -1 := by
  have h1 := hk.1
  have h2 := hk.2
  rcases hD.at id hk h0 with ⟨g1, _⟩ | ⟨g1, _⟩ | ⟨_, g2, _⟩
  · rw [h] at g1; exact absurd g1 (by decide)
  · rw [h] at g1; exact absurd g1 (by decide)
  · obtain ⟨n, hn⟩ : ∃ n, id.toNat = n + 1 := ⟨id.toNat - 1, by omega⟩
    have ea := klF_fuel hD n (entAt L id).rule.left ⟨by omega, by omega⟩ (by omega) (by omega)
    have hw : klF id.toNat L id = (mixI 3 (kkey L (entAt L id).rule.left) (entAt L id).rule.times, if 0 ≤ klev L (entAt L id).rule.left ∧ klev L (entAt L id).rule.left % 2 = 0 then klev L (entAt L id).rule.left + 1 else -1) := by
      rw [hn]
      show klF (n + 1) L id = _
      rw [klF, if_neg (by rw [h]; decide), if_neg (by rw [h]; decide), ea]
      rfl
    unfold kkey klev at *
    rw [hw]
    exact ⟨rfl, rfl⟩

/-- More rules change nothing. -/
theorem kl_more {L : List Ent} (hD : DOk L) (M : List Ent) (hD' : DOk (L ++ M)) : ∀ (n : Nat) (id : Int), id.toNat ≤ n → isKnown L id → id ≠ 0 → kkey (L ++ M) id = kkey L id ∧ klev (L ++ M) id = klev L id := by
  intro n
  induction n with
  | zero => intro id h hk h0; have := hk.1; omega
  | succ n ih =>
    intro id h hk h0
    have h1 := hk.1
    have h2 := hk.2
    have e := entAt_append L M id hk
    have hk' : isKnown (L ++ M) id := ⟨hk.1, by rw [List.length_append]; omega⟩
    rcases hD.at id hk h0 with ⟨g1, _⟩ | ⟨g1, g2, _⟩ | ⟨g1, g2, _⟩
    · have a := kl_letter (L := L) (by omega) g1
      have b := kl_letter (L := L ++ M) (id := id) (by omega) (by rw [e]; exact g1)
      rw [a.1, a.2, b.1, b.2, e]; exact ⟨rfl, rfl⟩
    · have a := kl_pair hD hk h0 g1
      have b := kl_pair hD' hk' h0 (by rw [e]; exact g1)
      have i1 := ih _ (by omega) (⟨by omega, by omega⟩ : isKnown L (entAt L id).rule.left) (by omega)
      have i2 := ih _ (by omega) (⟨by omega, by omega⟩ : isKnown L (entAt L id).rule.right) (by omega)
      rw [a.1, a.2, b.1, b.2, e, i1.1, i1.2, i2.1, i2.2]; exact ⟨rfl, rfl⟩
    · have a := kl_power hD hk h0 g1
      have b := kl_power hD' hk' h0 (by rw [e]; exact g1)
      have i1 := ih _ (by omega) (⟨by omega, by omega⟩ : isKnown L (entAt L id).rule.left) (by omega)
      rw [a.1, a.2, b.1, b.2, e, i1.1, i1.2]; exact ⟨rfl, rfl⟩

/-- Keys are below the modulus. -/
theorem kkey_rng {L : List Ent} (hD : DOk L) {id : Int} (hk : isKnown L id) (h0 : id ≠ 0) : 0 ≤ kkey L id ∧ kkey L id < 2305843009213693951 := by
  have h1 := hk.1
  rcases hD.at id hk h0 with ⟨g1, _⟩ | ⟨g1, g2, _⟩ | ⟨g1, g2, _⟩
  · rw [(kl_letter (by omega) g1).1]; exact mixI_rng _ _ _
  · rw [(kl_pair hD hk h0 g1).1]; exact mixI_rng _ _ _
  · rw [(kl_power hD hk h0 g1).1]; exact mixI_rng _ _ _

theorem TabOk.more {L : List Ent} (hD : DOk L) {M : List Ent} (hD' : DOk (L ++ M)) {T : List KRow} (h : TabOk L T) : TabOk (L ++ M) T := by
  intro i hi
  refine ⟨fun hk => ?_, (h i hi).2⟩
  obtain ⟨h1, h2, h3, h4⟩ := (h i hi).1 hk
  have e := kl_more hD M hD' _ (i : Int) (Nat.le_refl _) ⟨by omega, by omega⟩ (by omega)
  exact ⟨h1, by rw [List.length_append]; omega, h3.trans e.1.symm, h4.trans e.2.symm⟩

theorem TabOk.nil (L : List Ent) : TabOk L [] := fun i h => by simp at h

/-- No two rules of a store are one; a power has two copies or more. -/
structure Uq (L : List Ent) : Prop where
  one : ∀ a b : Int, isKnown L a → isKnown L b → a ≠ 0 → b ≠ 0 → (entAt L a).rule = (entAt L b).rule → a = b
  pow : ∀ a : Int, isKnown L a → a ≠ 0 → (entAt L a).rule.kind = 3 → 2 ≤ (entAt L a).rule.times
  ltr : ∀ a : Int, isKnown L a → a ≠ 0 → (entAt L a).rule.kind = 1 → 0 ≤ (entAt L a).rule.letter ∧ (entAt L a).rule.letter < 256

theorem Uq.nil : Uq [] := ⟨fun a b h1 _ h2 => by have := h1.1; have := h1.2; simp at this; omega, fun a h1 h2 => by have := h1.1; have := h1.2; simp at this; omega, fun a h1 h2 => by have := h1.1; have := h1.2; simp at this; omega⟩

theorem Uq.add {L : List Ent} (h : Uq L) (e : Ent) (he : e.rule.kind = 3 → 2 ≤ e.rule.times) (he1 : e.rule.kind = 1 → 0 ≤ e.rule.letter ∧ e.rule.letter < 256) : Uq (addL L e) := by
  cases hj : ruleIdx e.rule L with
  | some j => rw [addL_some hj]; exact h
  | none =>
    rw [addL_none hj]
    have hno : ∀ c : Int, isKnown L c → c ≠ 0 → (entAt L c).rule ≠ e.rule := by
      intro c hc c0 hr
      obtain ⟨k, rfl⟩ : ∃ k : Nat, c = (k : Int) + 1 := ⟨(c - 1).toNat, by have := hc.1; omega⟩
      have hlt : k < L.length := by have := hc.2; omega
      rw [entAt_succ L k hlt] at hr
      unfold ruleIdx at hj
      rw [List.findIdx?_eq_none_iff] at hj
      have := hj L[k] (List.getElem_mem hlt)
      simp [hr] at this
    have hlast : entAt (L ++ [e]) ((L.length : Int) + 1) = e := by
      rw [entAt_succ (L ++ [e]) L.length (by simp)]
      simp
    constructor
    · intro a b ha hb a0 b0 hr
      have ha1 := ha.1
      have ha2 := ha.2
      have hb1 := hb.1
      have hb2 := hb.2
      simp only [List.length_append, List.length_cons, List.length_nil] at ha2 hb2
      by_cases ca : a = (L.length : Int) + 1
      · by_cases cb : b = (L.length : Int) + 1
        · omega
        · exfalso
          have kb : isKnown L b := ⟨hb1, by omega⟩
          rw [ca, hlast, entAt_append L [e] b kb] at hr
          exact hno b kb b0 hr.symm
      · have ka : isKnown L a := ⟨ha1, by omega⟩
        by_cases cb : b = (L.length : Int) + 1
        · exfalso
          rw [cb, hlast, entAt_append L [e] a ka] at hr
          exact hno a ka a0 hr
        · have kb : isKnown L b := ⟨hb1, by omega⟩
          rw [entAt_append L [e] a ka, entAt_append L [e] b kb] at hr
          exact h.one a b ka kb a0 b0 hr
    · intro a ha a0 hk
      have ha1 := ha.1
      have ha2 := ha.2
      simp only [List.length_append, List.length_cons, List.length_nil] at ha2
      by_cases ca : a = (L.length : Int) + 1
      · rw [ca, hlast] at hk ⊢; exact he hk
      · have ka : isKnown L a := ⟨ha1, by omega⟩
        rw [entAt_append L [e] a ka] at hk ⊢
        exact h.pow a ka a0 hk
    · intro a ha a0 hk
      have ha1 := ha.1
      have ha2 := ha.2
      simp only [List.length_append, List.length_cons, List.length_nil] at ha2
      by_cases ca : a = (L.length : Int) + 1
      · rw [ca, hlast] at hk ⊢; exact he1 hk
      · have ka : isKnown L a := ⟨ha1, by omega⟩
        rw [entAt_append L [e] a ka] at hk ⊢
        exact h.ltr a ka a0 hk

theorem Uq.letter {L : List Ent} (h : Uq L) (b : Int) (h0 : 0 ≤ b) (h1 : b < 256) : Uq (addL L (letterEnt b)) := h.add _ (fun e => absurd (show (1 : Int) = 3 from e) (by decide)) (fun _ => ⟨h0, h1⟩)
theorem Uq.pair {L : List Ent} (h : Uq L) (x y : Int) : Uq (addL L (pairEnt L x y)) := h.add _ (fun e => absurd (show (2 : Int) = 3 from e) (by decide)) (fun e => absurd (show (2 : Int) = 1 from e) (by decide))
theorem Uq.pw {L : List Ent} (h : Uq L) (x k : Int) (hk : 2 ≤ k) : Uq (addL L (powEnt L x k)) := h.add _ (fun _ => hk) (fun e => absurd (show (3 : Int) = 1 from e) (by decide))

theorem Uq.text : ∀ (f : Nat) (L : List Ent) (bs : List Int), Uq L → (∀ b ∈ bs, 0 ≤ b ∧ b < 256) → Uq (textR f L bs).1
  | 0, L, bs, h, _ => h
  | f + 1, L, bs, h, hb => by
    unfold textR
    split
    · rename_i h1
      have hm : bs.getD 0 0 ∈ bs := by
        cases bs with
        | nil => simp at h1
        | cons b r => simp
      exact h.letter _ (hb _ hm).1 (hb _ hm).2
    · exact (Uq.text f _ _ (Uq.text f _ _ h (fun b hb' => hb b (List.mem_of_mem_take hb'))) (fun b hb' => hb b (List.mem_of_mem_drop hb'))).pair _ _

end Go.Proofs.YtodmpcnpedpheaaGreatDoor

/- Levels (plain): the least pair level above a level that two keys fit; what a pair level and a run level leave. -/
set_option linter.unusedSimpArgs false
set_option linter.unusedVariables false
namespace Go.Proofs.YtodmpcnpedpheaaGreatDoor
open Go.RowKit

theorem fitN_some {x y : Int} : ∀ (f c n : Nat), fitN x y f c = some n → c ≤ n ∧ n < c + f ∧ fitB n x y = true ∧ ∀ k, c ≤ k → k < n → fitB k x y = false
  | 0, c, n => by intro h; simp [fitN] at h
  | f + 1, c, n => by
    intro h
    unfold fitN at h
    cases hc : fitB c x y with
    | true =>
      rw [hc, if_pos rfl] at h
      simp only [Option.some.injEq] at h
      subst h
      exact ⟨Nat.le_refl _, by omega, hc, fun k h1 h2 => by omega⟩
    | false =>
      rw [hc, if_neg (by decide)] at h
      obtain ⟨h1, h2, h3, h4⟩ := fitN_some f (c + 1) n h
      refine ⟨by omega, by omega, h3, fun k k1 k2 => ?_⟩
      by_cases e : k = c
      · rw [e]; exact hc
      · exact h4 k (by omega) k2

theorem fitN_none {x y : Int} : ∀ (f c : Nat), fitN x y f c = none → ∀ k, c ≤ k → k < c + f → fitB k x y = false
  | 0, c => by intro _ k h1 h2; omega
  | f + 1, c => by
    intro h k k1 k2
    unfold fitN at h
    cases hc : fitB c x y with
    | true => rw [hc, if_pos rfl] at h; cases h
    | false =>
      rw [hc, if_neg (by decide)] at h
      by_cases e : k = c
      · rw [e]; exact hc
      · exact fitN_none f (c + 1) h k (by omega) (by omega)

/-- Two numbers below 2^61 that differ, differ in one of 61 bits. -/
theorem bit_differs {x y : Nat} (hx : x < 2305843009213693952) (hy : y < 2305843009213693952) (h : x ≠ y) : ∃ b, b < 61 ∧ x.testBit b ≠ y.testBit b := by
  have : ¬ ∀ b, b < 61 → x.testBit b = y.testBit b := by
    intro hall
    apply h
    apply Nat.eq_of_testBit_eq
    intro i
    by_cases hi : i < 61
    · exact hall i hi
    · have e : (2305843009213693952 : Nat) = 2 ^ 61 := by decide
      have hp : 2 ^ 61 ≤ 2 ^ i := Nat.pow_le_pow_right (by decide) (by omega)
      rw [Nat.testBit_lt_two_pow (by omega : x < 2 ^ i), Nat.testBit_lt_two_pow (by omega : y < 2 ^ i)]
  rw [Classical.not_forall] at this
  obtain ⟨b, hb⟩ := this
  rw [Classical.not_imp] at hb
  exact ⟨b, hb.1, hb.2⟩

/-- Some number fits. -/
theorem fit_ex {x y : Int} (hx : 0 ≤ x) (hx1 : x < 2305843009213693951) (hy : 0 ≤ y) (hy1 : y < 2305843009213693951) : ∃ c, c < 123 ∧ fitB c x y = true := by
  by_cases h : x = y
  · exact ⟨122, by omega, by unfold fitB; rw [if_pos rfl, h]; simp⟩
  · obtain ⟨b, hb, hd⟩ := bit_differs (x := x.toNat) (y := y.toNat) (by omega) (by omega) (by omega)
    cases h1 : x.toNat.testBit b with
    | true =>
      have h2 : y.toNat.testBit b = false := by rw [h1] at hd; cases h3 : y.toNat.testBit b with | true => rw [h3] at hd; exact absurd rfl hd | false => rfl
      refine ⟨2 * b + 1, by omega, ?_⟩
      unfold fitB
      rw [if_neg (by omega), show (2 * b + 1) / 2 = b by omega, show (2 * b + 1) % 2 = 1 by omega, h1, h2]
      rfl
    | false =>
      have h2 : y.toNat.testBit b = true := by rw [h1] at hd; cases h3 : y.toNat.testBit b with | true => rfl | false => rw [h3] at hd; exact absurd rfl hd
      refine ⟨2 * b, by omega, ?_⟩
      unfold fitB
      rw [if_neg (by omega), show (2 * b) / 2 = b by omega, show (2 * b) % 2 = 0 by omega, h1, h2]
      rfl

/-- Do two keys fit a pair level? -/
def fitL (l x y : Int) : Prop := 2 ≤ l ∧ l % 2 = 0 ∧ fitB ((l / 2 - 1).toNat % 123) x y = true

theorem aftI_spec {low x y : Int} (hl : 0 ≤ low) (hx : 0 ≤ x) (hx1 : x < 2305843009213693951) (hy : 0 ≤ y) (hy1 : y < 2305843009213693951) :
    low < aftI low x y ∧ aftI low x y ≤ low + 492 ∧ fitL (aftI low x y) x y ∧ ∀ l, low < l → l < aftI low x y → ¬ fitL l x y := by
  obtain ⟨c0, hc0, hf0⟩ := fit_ex hx hx1 hy hy1
  have hq : ((low / 2).toNat : Int) = low / 2 := by omega
  generalize hqq : (low / 2).toNat = q at *
  have hlq : low / 2 = (q : Int) := hq.symm
  unfold aftI
  rw [hqq, hlq]
  cases h1 : fitN x y (123 - q % 123) (q % 123) with
  | some n =>
    obtain ⟨g1, g2, g3, g4⟩ := fitN_some _ _ _ h1
    dsimp only
    refine ⟨by omega, by omega, ⟨by omega, by omega, ?_⟩, ?_⟩
    · rw [show ((2 * ((q : Int) + 1 + n - (q % 123 : Nat))) / 2 - 1).toNat % 123 = n by omega]
      exact g3
    · rintro l k1 k2 ⟨k3, k4, k5⟩
      have := g4 ((l / 2 - 1).toNat % 123) (by omega) (by omega)
      rw [this] at k5; cases k5
  | none =>
    have g := fitN_none _ _ h1
    dsimp only
    cases h2 : fitN x y 123 0 with
    | none =>
      have := fitN_none _ _ h2 c0 (by omega) (by omega)
      rw [this] at hf0; cases hf0
    | some n =>
      obtain ⟨g1, g2, g3, g4⟩ := fitN_some _ _ _ h2
      have hn : n < q % 123 := by
        rcases Nat.lt_or_ge n (q % 123) with k | k
        · exact k
        · have := g n k (by omega)
          rw [this] at g3; cases g3
      dsimp only
      refine ⟨by omega, by omega, ⟨by omega, by omega, ?_⟩, ?_⟩
      · rw [show ((2 * ((q : Int) + 1 + n - (q % 123 : Nat) + 123)) / 2 - 1).toNat % 123 = n by omega]
        exact g3
      · rintro l k1 k2 ⟨k3, k4, k5⟩
        by_cases k : (l / 2 - 1).toNat - q < 123 - q % 123
        · have := g ((l / 2 - 1).toNat % 123) (by omega) (by omega)
          rw [this] at k5; cases k5
        · have := g4 ((l / 2 - 1).toNat % 123) (by omega) (by omega)
          rw [this] at k5; cases k5

/-- The least: nothing else is it. -/
theorem aftI_eq {low x y l : Int} (hl : 0 ≤ low) (hx : 0 ≤ x) (hx1 : x < 2305843009213693951) (hy : 0 ≤ y) (hy1 : y < 2305843009213693951)
    (h1 : low < l) (h2 : fitL l x y) (h3 : ∀ k, low < k → k < l → ¬ fitL k x y) : aftI low x y = l := by
  obtain ⟨a1, _, a2, a3⟩ := aftI_spec hl hx hx1 hy hy1
  by_cases c : aftI low x y < l
  · exact absurd a2 (h3 _ a1 c)
  · by_cases d : l < aftI low x y
    · exact absurd h2 (a3 _ h1 d)
    · omega

end Go.Proofs.YtodmpcnpedpheaaGreatDoor

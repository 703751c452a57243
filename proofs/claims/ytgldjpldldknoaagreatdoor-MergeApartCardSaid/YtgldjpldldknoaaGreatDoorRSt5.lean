/- The walk of Letter. -/
import Derived.Test.YtgldjpldldknoaaGreatDoorRSt4
import Derived.Test.YtgldjpldldknoaaGreatDoorRMap
import Derived.Deep.LoopGhost
import Derived.Maps.AppendAt
import Derived.Laws.OwnMore
set_option linter.unusedSimpArgs false
set_option linter.unusedVariables false
namespace Go.Proofs.YtgldjpldldknoaaGreatDoor
open Go.RowKit
def Stepped (w w' : World) (p mb : Nat) (most : Int) (sv : Value) (L' : List Ent) : Prop :=
 ∃ sv', St w' p mb most sv' L' ∧ Fr (fun k => k = p ∨ k = mb ∨ sv.ownBlock = some k) w w' ∧ (∀ k, sv'.ownBlock = some k → sv.ownBlock = some k ∨ w.heap.size ≤ k)
theorem Stepped.same {w w' : World} {p mb : Nat} {most : Int} {sv : Value} {L : List Ent} (h : St w p mb most sv L) (hf : Fr0 w w') : Stepped w w' p mb most sv L :=
 ⟨sv, h.kept0 hf, hf.fr, fun _ h => .inl h⟩
theorem Stepped.before {w w1 w' : World} {p mb : Nat} {most : Int} {sv : Value} {L' : List Ent} (h0 : Fr0 w w1) (h : Stepped w1 w' p mb most sv L') : Stepped w w' p mb most sv L' := by
 obtain ⟨sv', h1, h2, h3⟩ := h
 exact ⟨sv', h1, Fr.trans h0.fr h2 (fun _ h _ => h), fun k hk => (h3 k hk).elim .inl (fun h => .inr (by have := h0.size'; omega))⟩
theorem Stepped.after {w w1 w' : World} {p mb : Nat} {most : Int} {sv : Value} {L' : List Ent} (h : Stepped w w1 p mb most sv L') (h0 : Fr0 w1 w') : Stepped w w' p mb most sv L' := by
 obtain ⟨sv', h1, h2, h3⟩ := h
 exact ⟨sv', h1.kept0 h0, Fr.trans h2 h0 (fun _ h _ => h.elim), h3⟩
theorem Stepped.trans {w w1 w' : World} {p mb : Nat} {most : Int} {sv : Value} {L1 L2 : List Ent} (h : Stepped w w1 p mb most sv L1) (k : ∀ sv1, St w1 p mb most sv1 L1 → Stepped w1 w' p mb most sv1 L2) : Stepped w w' p mb most sv L2 := by
 obtain ⟨sv1, h1, h2, h3⟩ := h
 obtain ⟨sv2, k1, k2, k3⟩ := k sv1 h1
 refine ⟨sv2, k1, Fr.trans h2 k2 ?_, ?_⟩
 · rintro i (hi | hi | hi) hlt
   · exact .inl hi
   · exact .inr (.inl hi)
   · exact (h3 i hi).elim (fun h => .inr (.inr h)) (fun h => by omega)
 · intro i hi
   rcases k3 i hi with h | h
   · exact h3 i h
   · exact .inr (by have := h2.size; omega)
theorem st_add' {w : World} {p mb : Nat} {most : Int} {sv : Value} {L : List Ent} (hS : St w p mb most sv L) (x : Ent) (hj : ruleIdx x.rule L = none) (hL : L.length < 1048576) :
    Calls Tryz.prog 58 #[.pointer (some ⟨p, 0, none⟩), .agg #[.int .i64 x.rule.kind, .int .u8 x.rule.letter, .int .i64 x.rule.left, .int .i64 x.rule.right, .int .i64 x.rule.times, .int .i64 x.wt.len, .int .i64 x.wt.lines, .int .i64 x.wt.head, .int .i64 x.wt.tail, .int .u64 x.wt.val, .int .u64 x.wt.scale, .int .i64 x.depth, .bool x.even]] w
     fun e w' => e = .returned (.int .i64 ((L.length : Int) + 1)) ∧ Stepped w w' p mb most sv (L ++ [x]) :=
 st_add hS x hj hL
set_option maxRecDepth 100000 in
set_option maxHeartbeats 1000000 in
theorem st_Letter_some {w : World} {p mb : Nat} {most : Int} {sv : Value} {L : List Ent} (hS : St w p mb most sv L) (b : Int) (h0 : 0 ≤ b) (h1 : b < 256) (j : Nat) (hj : ruleIdx ⟨1, b, 0, 0, 0⟩ L = some j) :
    Calls Tryz.prog 40 #[.pointer (some ⟨p, 0, none⟩), .int .u8 b] w fun e w' => e = .returned (.tuple #[.int .i64 ((j : Int) + 1), .nilIface]) ∧ Fr0 w w' := by
 have CF := Lib.hid (fun w' (hf : Fr0 w w') => st_find_some (hS.kept0 hf) ⟨1, b, 0, 0, 0⟩ j hj)
 clear hS hj
 go_enter Tryz.func40, Tryz.ntmps40
 go_wp2_with fail
 refine (CF.out _ ((Fr0.refl w).alloc _)).mono ?_
 rintro e w1 ⟨rfl, hf1⟩
 have hj1 : ((j : Int) + 1 != 0) = true := by simp; omega
 go_wp2_with fail
 go_ret2
 exact ⟨rfl, ((Fr0.refl w).alloc _).trans hf1⟩
set_option maxRecDepth 100000 in
set_option maxHeartbeats 1000000 in
theorem st_Letter_none {w : World} {p mb : Nat} {most : Int} {sv : Value} {L : List Ent} (hS : St w p mb most sv L) (b : Int) (h0 : 0 ≤ b) (h1 : b < 256) (hj : ruleIdx (letterEnt b).rule L = none) (hm : (L.length : Int) < most) (hL : L.length < 1048576) :
    Calls Tryz.prog 40 #[.pointer (some ⟨p, 0, none⟩), .int .u8 b] w fun e w' => e = .returned (.tuple #[.int .i64 ((L.length : Int) + 1), .nilIface]) ∧ Stepped w w' p mb most sv (L ++ [letterEnt b]) := by
 have CF := Lib.hid (fun w' (hf : Fr0 w w') => st_find_none (hS.kept0 hf) ⟨1, b, 0, 0, 0⟩ hj hm)
 have cl : ∀ w', Calls Tryz.prog 59 #[.int .u8 b] w' fun e w'' => e = .returned (.agg #[.int .i64 (Wt.letter b).len, .int .i64 (Wt.letter b).lines, .int .i64 (Wt.letter b).head, .int .i64 (Wt.letter b).tail, .int .u64 (Wt.letter b).val, .int .u64 (Wt.letter b).scale]) ∧ Fr0 w' w'' := fun w' => wt_Letter b w' h0 h1
 have hx : letterEnt b = ⟨⟨1, b, 0, 0, 0⟩, Wt.letter b, 0, true⟩ := rfl
 rw [hx]
 generalize Wt.letter b = t at *
 have CL := Lib.hid cl
 have CA := Lib.hid (fun w' (hf : Fr0 w w') => st_add' (hS.kept0 hf) ⟨⟨1, b, 0, 0, 0⟩, t, 0, true⟩ hj hL)
 have HS := Lib.hid hS
 have lp := lt_of_block hS.ptr
 have lm := lt_of_block hS.mp
 have lv : ∀ k, sv.ownBlock = some k → k < w.heap.size := fun k hk => (hS.own.lt k hk).2
 have LV := Lib.hid lv
 clear hS hj lv cl hx
 go_enter Tryz.func40, Tryz.ntmps40
 go_wp2_with fail
 refine (CF.out _ ((Fr0.refl w).alloc _)).mono ?_
 rintro e w1 ⟨rfl, hf1⟩
 have hr1 := hf1.kept (b := w.heap.size) (alloc_at _ _ _ rfl)
 have hW1 : Fr0 w w1 := ((Fr0.refl w).alloc _).trans hf1
 have d0 : w1.cell? ⟨w.heap.size, 0, none⟩ = some (.int .i64 1) := by rw [cell_of_block hr1]; rfl
 have d1 : w1.cell? ⟨w.heap.size, 1, none⟩ = some (.int .u8 b) := by rw [cell_of_block hr1]; rfl
 have d2 : w1.cell? ⟨w.heap.size, 2, none⟩ = some (.int .i64 0) := by rw [cell_of_block hr1]; rfl
 have d3 : w1.cell? ⟨w.heap.size, 3, none⟩ = some (.int .i64 0) := by rw [cell_of_block hr1]; rfl
 have d4 : w1.cell? ⟨w.heap.size, 4, none⟩ = some (.int .i64 0) := by rw [cell_of_block hr1]; rfl
 have l1 := lt_of_block hr1
 clear hf1 CF hr1
 go_wp2_with fail
 generalize hE : w.heap.size = E at *
 have HE := Lib.hid hE
 clear hE
 go_region_held3 (fun w' => w'.cell? ⟨E, 0, none⟩ = some (.int .i64 1) ∧ w'.cell? ⟨E, 1, none⟩ = some (.int .u8 b) ∧ w'.cell? ⟨E, 2, none⟩ = some (.int .i64 0) ∧ w'.cell? ⟨E, 3, none⟩ = some (.int .i64 0) ∧ w'.cell? ⟨E, 4, none⟩ = some (.int .i64 0))
  (first | (go_keep; done) | ((try dsimp only); (repeat' apply And.intro); all_goals (go_split_ands; first | (rw [hfL.cell _ _ (by simp; omega)]; assumption) | (rw [Fr.cell hfA _ (by dsimp only; omega) hnE]; assumption))))
  (first | (go_at_call 59; refine (CL.out _).mono ?_; rintro e w2 ⟨rfl, hfL⟩; have l2 : E < w2.heap.size := (by have hq := hfL.size'; (try simp at hq); omega); have hW2 : Fr0 w w2 := hW1.drew.trans hfL) | (go_at_call 58; refine (CA.out _ hW2).mono ?_; rintro e w3 ⟨rfl, hst⟩; obtain ⟨sv3, hS3, hfA, hv3⟩ := hst; have hnE : ¬ (E = p ∨ E = mb ∨ sv.ownBlock = some E) := (by rintro (h | h | h); omega; omega; have := LV.out E h; omega)))
 go_wp2_with fail
 go_ret2
 exact ⟨rfl, (show Stepped w2 w3 p mb most sv _ from ⟨sv3, hS3, hfA, hv3⟩).before hW2⟩
end Go.Proofs.YtgldjpldldknoaaGreatDoor
/- The walk of Pair. -/
set_option linter.unusedSimpArgs false
set_option linter.unusedVariables false
namespace Go.Proofs.YtgldjpldldknoaaGreatDoor
open Go.RowKit
theorem st_Letter {w : World} {p mb : Nat} {most : Int} {sv : Value} {L : List Ent} (hS : St w p mb most sv L) (b : Int) (h0 : 0 ≤ b) (h1 : b < 256) (hm : (L.length : Int) < most) (hL : L.length < 1048576) :
    Calls Tryz.prog 40 #[.pointer (some ⟨p, 0, none⟩), .int .u8 b] w fun e w' => e = .returned (.tuple #[.int .i64 (addI L (letterEnt b)), .nilIface]) ∧ Stepped w w' p mb most sv (addL L (letterEnt b)) := by
 cases hj : ruleIdx (letterEnt b).rule L with
 | some j =>
  rw [addI_some hj, addL_some hj]
  exact (st_Letter_some hS b h0 h1 j hj).mono fun e w' ⟨h1, h2⟩ => ⟨h1, Stepped.same hS h2⟩
 | none =>
  rw [addI_none hj, addL_none hj]
  exact st_Letter_none hS b h0 h1 hj hm hL
theorem cells13 {w : World} {b : Nat} {x0 x1 x2 x3 x4 x5 x6 x7 x8 x9 x10 x11 x12 : Value} {t : TypeId} (h : w.heap[b]? = some (.cells #[x0, x1, x2, x3, x4, x5, x6, x7, x8, x9, x10, x11, x12] t (0, 0))) :
    w.cell? ⟨b, 5, none⟩ = some x5 ∧ w.cell? ⟨b, 6, none⟩ = some x6 ∧ w.cell? ⟨b, 7, none⟩ = some x7 ∧ w.cell? ⟨b, 8, none⟩ = some x8 ∧ w.cell? ⟨b, 9, none⟩ = some x9 ∧ w.cell? ⟨b, 10, none⟩ = some x10 ∧ w.cell? ⟨b, 11, none⟩ = some x11 ∧ w.cell? ⟨b, 12, none⟩ = some x12 ∧ b < w.heap.size :=
 ⟨by rw [cell_of_block h]; rfl, by rw [cell_of_block h]; rfl, by rw [cell_of_block h]; rfl, by rw [cell_of_block h]; rfl, by rw [cell_of_block h]; rfl, by rw [cell_of_block h]; rfl, by rw [cell_of_block h]; rfl, by rw [cell_of_block h]; rfl, lt_of_block h⟩
theorem cells5 {w : World} {b : Nat} {x0 x1 x2 x3 x4 : Value} {t : TypeId} (h : w.heap[b]? = some (.cells #[x0, x1, x2, x3, x4] t (0, 0))) :
    w.cell? ⟨b, 0, none⟩ = some x0 ∧ w.cell? ⟨b, 1, none⟩ = some x1 ∧ w.cell? ⟨b, 2, none⟩ = some x2 ∧ w.cell? ⟨b, 3, none⟩ = some x3 ∧ w.cell? ⟨b, 4, none⟩ = some x4 ∧ b < w.heap.size :=
 ⟨by rw [cell_of_block h]; rfl, by rw [cell_of_block h]; rfl, by rw [cell_of_block h]; rfl, by rw [cell_of_block h]; rfl, by rw [cell_of_block h]; rfl, lt_of_block h⟩
set_option maxRecDepth 100000 in
set_option maxHeartbeats 1000000 in
theorem st_Pair_some {w : World} {p mb : Nat} {most : Int} {sv : Value} {L : List Ent} (hS : St w p mb most sv L) (hO : SOk L) (l r : Int) (hl : isKnown L l) (hr : isKnown L r) (l0 : l ≠ 0) (r0 : r ≠ 0)
    (hlen : (entAt L l).wt.len + (entAt L r).wt.len ≤ 1152921504606846976) (j : Nat) (hj : ruleIdx ⟨2, 0, l, r, 0⟩ L = some j) :
    Calls Tryz.prog 41 #[.pointer (some ⟨p, 0, none⟩), .int .i64 l, .int .i64 r] w fun e w' => e = .returned (.tuple #[.int .i64 ((j : Int) + 1), .nilIface]) ∧ Fr0 w w' := by
 have CF := Lib.hid (fun w' (hf : Fr0 w w') => st_find_some (hS.kept0 hf) ⟨2, 0, l, r, 0⟩ j hj)
 have K1 := Lib.hid (fun w' (hf : Fr0 w w') => st_known_yes (hS.kept0 hf) l hl)
 have K2 := Lib.hid (fun w' (hf : Fr0 w w') => st_known_yes (hS.kept0 hf) r hr)
 have a1 := fun w' (hf : Fr0 w w') => st_at (hS.kept0 hf) l hl
 have a2 := fun w' (hf : Fr0 w w') => st_at (hS.kept0 hf) r hr
 have q1 := (hO.at l hl).1.len0
 have q2 := (hO.at r hr).1.len0
 generalize entAt L l = x at *
 generalize entAt L r = y at *
 have A1 := Lib.hid a1
 have A2 := Lib.hid a2
 have hl0 : (l == 0) = false := by simpa using l0
 have hr0 : (r == 0) = false := by simpa using r0
 clear hS hj a1 a2 hO l0 r0 hl hr
 go_enter Tryz.func41, Tryz.ntmps41
 go_wp2_with fail
 refine (K1.out _ (Fr0.refl w)).mono ?_
 rintro e w' ⟨rfl, rfl⟩
 go_wp2_with fail
 refine (K2.out _ (Fr0.refl w)).mono ?_
 rintro e w' ⟨rfl, rfl⟩
 go_wp2_with fail
 refine (A1.out _ (Fr0.refl w)).mono ?_
 rintro e w1 ⟨rfl, hf1⟩
 go_wp2_with fail
 refine (A2.out _ hf1).mono ?_
 rintro e w2 ⟨rfl, hf2⟩
 have hW2 := hf1.trans hf2
 clear hf1 hf2
 go_wp2_with fail
 refine (len_Add_ok _ _ _ q1 q2 hlen).mono ?_
 rintro e w' ⟨rfl, rfl⟩
 go_wp2_with fail
 refine (CF.out _ (((hW2.alloc _).alloc _).alloc _)).mono ?_
 rintro e w4 ⟨rfl, hf4⟩
 have hj1 : ((j : Int) + 1 != 0) = true := by simp; omega
 go_wp2_with fail
 go_ret2
 exact ⟨rfl, (((hW2.alloc _).alloc _).alloc _).trans hf4⟩
end Go.Proofs.YtgldjpldldknoaaGreatDoor
/- The walk of Pair where the rule is new. -/
set_option linter.unusedSimpArgs false
set_option linter.unusedVariables false
namespace Go.Proofs.YtgldjpldldknoaaGreatDoor
open Go.RowKit
set_option maxRecDepth 100000 in
set_option maxHeartbeats 2000000 in
theorem st_Pair_none {w : World} {p mb : Nat} {most : Int} {sv : Value} {L : List Ent} (hS : St w p mb most sv L) (hO : SOk L) (l r : Int) (hl : isKnown L l) (hr : isKnown L r) (l0 : l ≠ 0) (r0 : r ≠ 0)
    (hlen : (entAt L l).wt.len + (entAt L r).wt.len ≤ 1152921504606846976) (hj : ruleIdx (pairEnt L l r).rule L = none) (hm : (L.length : Int) < most) (hL : L.length < 1048576) :
    Calls Tryz.prog 41 #[.pointer (some ⟨p, 0, none⟩), .int .i64 l, .int .i64 r] w fun e w' => e = .returned (.tuple #[.int .i64 ((L.length : Int) + 1), .nilIface]) ∧ Stepped w w' p mb most sv (L ++ [pairEnt L l r]) := by
 have CF := Lib.hid (fun w' (hf : Fr0 w w') => st_find_none (hS.kept0 hf) ⟨2, 0, l, r, 0⟩ hj hm)
 have K1 := Lib.hid (fun w' (hf : Fr0 w w') => st_known_yes (hS.kept0 hf) l hl)
 have K2 := Lib.hid (fun w' (hf : Fr0 w w') => st_known_yes (hS.kept0 hf) r hr)
 have a1 := fun w' (hf : Fr0 w w') => st_at (hS.kept0 hf) l hl
 have a2 := fun w' (hf : Fr0 w w') => st_at (hS.kept0 hf) r hr
 obtain ⟨v1, v2, v3, v4⟩ := hO.at l hl
 obtain ⟨u1, u2, u3, u4⟩ := hO.at r hr
 have q1 := v1.len0
 have q2 := u1.len0
 have cj : ∀ w', Calls Tryz.prog 60 #[.agg #[.int .i64 (entAt L l).wt.len, .int .i64 (entAt L l).wt.lines, .int .i64 (entAt L l).wt.head, .int .i64 (entAt L l).wt.tail, .int .u64 (entAt L l).wt.val, .int .u64 (entAt L l).wt.scale],
     .agg #[.int .i64 (entAt L r).wt.len, .int .i64 (entAt L r).wt.lines, .int .i64 (entAt L r).wt.head, .int .i64 (entAt L r).wt.tail, .int .u64 (entAt L r).wt.val, .int .u64 (entAt L r).wt.scale]] w'
     fun e w'' => e = .returned (.tuple #[.agg #[.int .i64 ((entAt L l).wt.join (entAt L r).wt).len, .int .i64 ((entAt L l).wt.join (entAt L r).wt).lines, .int .i64 ((entAt L l).wt.join (entAt L r).wt).head, .int .i64 ((entAt L l).wt.join (entAt L r).wt).tail, .int .u64 ((entAt L l).wt.join (entAt L r).wt).val, .int .u64 ((entAt L l).wt.join (entAt L r).wt).scale], .nilIface]) ∧ Fr0 w' w'' :=
  fun w' => wt_Join _ _ w' v1 u1 hlen
 have ca := fun (ev : Bool) (t : Wt) (d : Int) w' (hf : Fr0 w w') => st_add' (hS.kept0 hf) ⟨⟨2, 0, l, r, 0⟩, t, d, ev⟩ hj hL
 have hx : pairEnt L l r = ⟨⟨2, 0, l, r, 0⟩, (entAt L l).wt.join (entAt L r).wt, 1 + max (entAt L l).depth (entAt L r).depth,
  (entAt L l).even && (entAt L r).even && decide (-1 ≤ (entAt L l).depth - (entAt L r).depth) && decide ((entAt L l).depth - (entAt L r).depth ≤ 1)⟩ := rfl
 rw [hx]
 have LP := lt_of_block hS.ptr
 have LM := lt_of_block hS.mp
 have lv : ∀ k, sv.ownBlock = some k → k < w.heap.size := fun k hk => (hS.own.lt k hk).2
 have LV := Lib.hid lv
 generalize (entAt L l).wt.join (entAt L r).wt = t at *
 generalize entAt L l = x at *
 generalize entAt L r = y at *
 obtain ⟨ev, hev⟩ : ∃ b, (x.even && y.even && decide (-1 ≤ x.depth - y.depth) && decide (x.depth - y.depth ≤ 1)) = b := ⟨_, rfl⟩
 rw [hev]
 have HEV := Lib.hid hev
 have A1 := Lib.hid a1
 have A2 := Lib.hid a2
 have CJ := Lib.hid cj
 have CA := Lib.hid ca
 have hl0 : (l == 0) = false := by simpa using l0
 have hr0 : (r == 0) = false := by simpa using r0
 clear hS hj a1 a2 hO l0 r0 hl hr cj ca hx hev lv v1 v4 u1 u4
 go_enter Tryz.func41, Tryz.ntmps41
 go_wp2_with fail
 refine (K1.out _ (Fr0.refl w)).mono ?_
 rintro e w' ⟨rfl, rfl⟩
 go_wp2_with fail
 refine (K2.out _ (Fr0.refl w)).mono ?_
 rintro e w' ⟨rfl, rfl⟩
 go_wp2_with fail
 refine (A1.out _ (Fr0.refl w)).mono ?_
 rintro e w1 ⟨rfl, hf1⟩
 go_wp2_with fail
 refine (A2.out _ hf1).mono ?_
 rintro e w2 ⟨rfl, hf2⟩
 have hW2 := hf1.trans hf2
 clear hf1 hf2
 go_wp2_with fail
 refine (len_Add_ok _ _ _ q1 q2 hlen).mono ?_
 rintro e w' ⟨rfl, rfl⟩
 go_wp2_with fail
 refine (CF.out _ (((hW2.alloc _).alloc _).alloc _)).mono ?_
 rintro e w4 ⟨rfl, hf4⟩
 have hx4 := hf4.kept (alloc3_0 _ _ _ _)
 have hy4 := hf4.kept (alloc3_1 _ _ _ _)
 have hr4 := hf4.kept (alloc3_2 _ _ _ _)
 have hW4 := (((hW2.alloc _).alloc _).alloc _).trans hf4
 clear hf4 hW2 CF K1 K2 A1 A2
 generalize w2.heap.size = N at *
 clear w2
 obtain ⟨x5, x6, x7, x8, x9, x10, x11, x12, lx⟩ := cells13 hx4
 obtain ⟨y5, y6, y7, y8, y9, y10, y11, y12, ly⟩ := cells13 hy4
 obtain ⟨r1, r2, r3, r4, r5, lr⟩ := cells5 hr4
 go_wp2_with fail
 refine (CJ.out _).mono ?_
 rintro e w5 ⟨rfl, hf5⟩
 have hx5 := hf5.kept hx4
 have hy5 := hf5.kept hy4
 have hr5 := hf5.kept hr4
 have hW5 := hW4.trans hf5
 clear hf5 hW4 x5 x6 x7 x8 x9 x10 x11 x12 lx y5 y6 y7 y8 y9 y10 y11 y12 ly r1 r2 r3 r4 r5 lr hx4 hy4 hr4 CJ
 clear w4
 obtain ⟨x5, x6, x7, x8, x9, x10, x11, x12, lx⟩ := cells13 hx5
 obtain ⟨y5, y6, y7, y8, y9, y10, y11, y12, ly⟩ := cells13 hy5
 have hr5' : w5.heap[N + 1 + 1]? = some (.cells #[.int .i64 2, .int .u8 0, .int .i64 l, .int .i64 r, .int .i64 0] 82 (0, 0)) := hr5
 obtain ⟨r1, r2, r3, r4, r5, lr⟩ := cells5 hr5'
 clear hr5 hr5'
 clear x5 x6 x7 x8 x9 x10 y5 y6 y7 y8 y9 y10
 have n1 : ¬ w5.heap.size = N := by omega
 have n2 : ¬ w5.heap.size = N + 1 := by omega
 have n3 : ¬ w5.heap.size = N + 1 + 1 := by omega
 go_upto_region 21 with fail
 have fin : ∀ (b : Bool) (d : Int), b = ev → d = 1 + max x.depth y.depth → Hid (∀ w', Fr0 w w' → Calls Tryz.prog 58 #[.pointer (some ⟨p, 0, none⟩), .agg #[.int .i64 2, .int .u8 0, .int .i64 l, .int .i64 r, .int .i64 0, .int .i64 t.len, .int .i64 t.lines, .int .i64 t.head, .int .i64 t.tail, .int .u64 t.val, .int .u64 t.scale, .int .i64 d, .bool b]] w' fun e w'' => e = .returned (.int .i64 ((L.length : Int) + 1)) ∧ Stepped w' w'' p mb most sv (L ++ [⟨⟨2, 0, l, r, 0⟩, t, 1 + max x.depth y.depth, ev⟩])) :=
  fun b d hb hd => by subst hb; subst hd; exact fun w' hf => CA.out b t (1 + max x.depth y.depth) w' hf
 have FIN := Lib.hid fin
 clear CA fin
 by_cases hmax : x.depth < y.depth
 · cases hxe : x.even with
   | false =>
    rw [hxe] at x12
    have C := FIN.out false (1 + y.depth) (by rw [← HEV.out]; simp [hxe]) (by omega)
    clear FIN HEV
    go_wp2_with fail
    refine (C.out _ (hW5.alloc _)).mono ?_
    rintro e w6 ⟨rfl, hst⟩
    go_wp2_with fail
    go_ret2
    exact ⟨rfl, hst.before (hW5.alloc _)⟩
   | true =>
    rw [hxe] at x12
    cases hye : y.even with
    | false =>
     rw [hye] at y12
     have C := FIN.out false (1 + y.depth) (by rw [← HEV.out]; simp [hxe, hye]) (by omega)
     clear FIN HEV
     go_wp2_with fail
     refine (C.out _ (hW5.alloc _)).mono ?_
     rintro e w6 ⟨rfl, hst⟩
     go_wp2_with fail
     go_ret2
     exact ⟨rfl, hst.before (hW5.alloc _)⟩
    | true =>
     rw [hye] at y12
     by_cases hc1 : -1 ≤ x.depth - y.depth
     · have hc2 : x.depth - y.depth ≤ 1 := by omega
       have C := FIN.out true (1 + y.depth) (by rw [← HEV.out]; simp [hxe, hye, hc1, hc2]) (by omega)
       clear FIN HEV
       go_wp2_with fail
       refine (C.out _ (hW5.alloc _)).mono ?_
       rintro e w6 ⟨rfl, hst⟩
       go_wp2_with fail
       go_ret2
       exact ⟨rfl, hst.before (hW5.alloc _)⟩
     · have hd1 : decide (-1 ≤ x.depth - y.depth) = false := decide_eq_false hc1
       have C := FIN.out false (1 + y.depth) (by rw [← HEV.out]; simp [hxe, hye, hd1]) (by omega)
       clear FIN HEV
       go_wp2_with fail
       refine (C.out _ (hW5.alloc _)).mono ?_
       rintro e w6 ⟨rfl, hst⟩
       go_wp2_with fail
       go_ret2
       exact ⟨rfl, hst.before (hW5.alloc _)⟩
 · cases hxe : x.even with
   | false =>
    rw [hxe] at x12
    have C := FIN.out false (1 + x.depth) (by rw [← HEV.out]; simp [hxe]) (by omega)
    clear FIN HEV
    go_wp2_with fail
    refine (C.out _ (hW5.alloc _)).mono ?_
    rintro e w6 ⟨rfl, hst⟩
    go_wp2_with fail
    go_ret2
    exact ⟨rfl, hst.before (hW5.alloc _)⟩
   | true =>
    rw [hxe] at x12
    cases hye : y.even with
    | false =>
     rw [hye] at y12
     have C := FIN.out false (1 + x.depth) (by rw [← HEV.out]; simp [hxe, hye]) (by omega)
     clear FIN HEV
     go_wp2_with fail
     refine (C.out _ (hW5.alloc _)).mono ?_
     rintro e w6 ⟨rfl, hst⟩
     go_wp2_with fail
     go_ret2
     exact ⟨rfl, hst.before (hW5.alloc _)⟩
    | true =>
     rw [hye] at y12
     have hc1 : -1 ≤ x.depth - y.depth := by omega
     by_cases hc2 : x.depth - y.depth ≤ 1
     · have C := FIN.out true (1 + x.depth) (by rw [← HEV.out]; simp [hxe, hye, hc1, hc2]) (by omega)
       clear FIN HEV
       go_wp2_with fail
       refine (C.out _ (hW5.alloc _)).mono ?_
       rintro e w6 ⟨rfl, hst⟩
       go_wp2_with fail
       go_ret2
       exact ⟨rfl, hst.before (hW5.alloc _)⟩
     · have hd2 : decide (x.depth - y.depth ≤ 1) = false := decide_eq_false hc2
       have C := FIN.out false (1 + x.depth) (by rw [← HEV.out]; simp [hxe, hye, hc1, hd2]) (by omega)
       clear FIN HEV
       go_wp2_with fail
       refine (C.out _ (hW5.alloc _)).mono ?_
       rintro e w6 ⟨rfl, hst⟩
       go_wp2_with fail
       go_ret2
       exact ⟨rfl, hst.before (hW5.alloc _)⟩
end Go.Proofs.YtgldjpldldknoaaGreatDoor
/- The walk of Pair, both cases. -/
set_option linter.unusedSimpArgs false
set_option linter.unusedVariables false
namespace Go.Proofs.YtgldjpldldknoaaGreatDoor
open Go.RowKit
theorem st_Pair {w : World} {p mb : Nat} {most : Int} {sv : Value} {L : List Ent} (hS : St w p mb most sv L) (hO : SOk L) (l r : Int) (hl : isKnown L l) (hr : isKnown L r) (l0 : l ≠ 0) (r0 : r ≠ 0)
    (hlen : (entAt L l).wt.len + (entAt L r).wt.len ≤ 1152921504606846976) (hm : (L.length : Int) < most) (hL : L.length < 1048576) :
    Calls Tryz.prog 41 #[.pointer (some ⟨p, 0, none⟩), .int .i64 l, .int .i64 r] w fun e w' => e = .returned (.tuple #[.int .i64 (addI L (pairEnt L l r)), .nilIface]) ∧ Stepped w w' p mb most sv (addL L (pairEnt L l r)) := by
 cases hj : ruleIdx (pairEnt L l r).rule L with
 | some j =>
  rw [addI_some hj, addL_some hj]
  exact (st_Pair_some hS hO l r hl hr l0 r0 hlen j hj).mono fun e w' ⟨h1, h2⟩ => ⟨h1, Stepped.same hS h2⟩
 | none =>
  rw [addI_none hj, addL_none hj]
  exact st_Pair_none hS hO l r hl hr l0 r0 hlen hj hm hL
end Go.Proofs.YtgldjpldldknoaaGreatDoor
/- The walks of balance.text and balance.Text. -/
set_option linter.unusedSimpArgs false
set_option linter.unusedVariables false
namespace Go.Proofs.YtgldjpldldknoaaGreatDoor
open Go.RowKit
structure BytesAt (w : World) (bb off : Nat) (bs : List Int) : Prop where
 blk : ∃ cur fr, w.heap[bb]? = some (.cells cur 5 fr) ∧ ∀ i (h : i < bs.length), cur[off + i]? = some (.int .u8 bs[i])
 rng : ∀ x ∈ bs, 0 ≤ x ∧ x < 256
theorem BytesAt.cell {w : World} {bb off : Nat} {bs : List Int} (h : BytesAt w bb off bs) (i : Nat) (hi : i < bs.length) : w.cell? ⟨bb, off + i, none⟩ = some (.int .u8 bs[i]) := by
 obtain ⟨cur, fr, h1, h2⟩ := h.blk
 rw [cell_of_block h1]; exact h2 i hi
theorem BytesAt.take {w : World} {bb off : Nat} {bs : List Int} (h : BytesAt w bb off bs) (n : Nat) : BytesAt w bb off (bs.take n) := by
 obtain ⟨cur, fr, h1, h2⟩ := h.blk
 refine ⟨⟨cur, fr, h1, fun i hi => ?_⟩, fun x hx => h.rng x (List.mem_of_mem_take hx)⟩
 have : i < bs.length := by simp at hi; omega
 rw [h2 i this, List.getElem_take]
theorem BytesAt.drop {w : World} {bb off : Nat} {bs : List Int} (h : BytesAt w bb off bs) (n : Nat) : BytesAt w bb (off + n) (bs.drop n) := by
 obtain ⟨cur, fr, h1, h2⟩ := h.blk
 refine ⟨⟨cur, fr, h1, fun i hi => ?_⟩, fun x hx => h.rng x (List.mem_of_mem_drop hx)⟩
 have : n + i < bs.length := by simp at hi; omega
 rw [Nat.add_assoc, h2 (n + i) this, List.getElem_drop]
theorem Stepped.next {w w1 w' : World} {p mb : Nat} {most : Int} {sv sv1 : Value} {L2 : List Ent} (h2 : Fr (fun k => k = p ∨ k = mb ∨ sv.ownBlock = some k) w w1) (h3 : ∀ k, sv1.ownBlock = some k → sv.ownBlock = some k ∨ w.heap.size ≤ k)
    (k : Stepped w1 w' p mb most sv1 L2) : Stepped w w' p mb most sv L2 := by
 obtain ⟨sv2, k1, k2, k3⟩ := k
 refine ⟨sv2, k1, Fr.trans h2 k2 ?_, ?_⟩
 · rintro i (hi | hi | hi) hlt
   · exact .inl hi
   · exact .inr (.inl hi)
   · exact (h3 i hi).elim (fun h => .inr (.inr h)) (fun h => by omega)
 · intro i hi
   rcases k3 i hi with h | h
   · exact h3 i h
   · exact .inr (by have := h2.size; omega)
theorem Stepped.block {w w' : World} {p mb : Nat} {most : Int} {sv : Value} {L L' : List Ent} (hS : St w p mb most sv L) (h : Stepped w w' p mb most sv L') {b : Nat} {cs : Array Value} {t : TypeId} {f : Nat × Nat}
    (hb : w.heap[b]? = some (.cells cs t f)) (h1 : t ≠ 100) (h2 : t ≠ 84) : w'.heap[b]? = some (.cells cs t f) := by
 obtain ⟨sv', _, hf, _⟩ := h
 refine hf.kept hb ?_
 rintro (e | e | e)
 · rw [e, hS.ptr] at hb; simp at hb; exact h1 hb.2.1.symm
 · rw [e, hS.mp] at hb; simp at hb
 · rcases hS.own.2 with ⟨e1, _⟩ | ⟨g, cap, cur, e1, _, hg, _⟩
   · rw [e1] at e; simp [Value.ownBlock] at e
   · rw [e1] at e
     simp [Value.ownBlock] at e
     subst e
     rw [hg] at hb; simp at hb; exact h2 hb.2.1.symm
theorem Stepped.bytes {w w' : World} {p mb : Nat} {most : Int} {sv : Value} {L L' : List Ent} (hS : St w p mb most sv L) (h : Stepped w w' p mb most sv L') {bb off : Nat} {bs : List Int} (hb : BytesAt w bb off bs) : BytesAt w' bb off bs := by
 obtain ⟨cur, fr, h1, h2⟩ := hb.blk
 exact ⟨⟨cur, fr, h.block hS h1 (by decide) (by decide), h2⟩, hb.rng⟩
set_option maxRecDepth 100000 in
set_option maxHeartbeats 1000000 in
theorem bal_text : ∀ (f : Nat) (w : World) (p mb : Nat) (most : Int) (sv : Value) (L : List Ent) (bb off n cap : Nat) (bs : List Int), St w p mb most sv L → SOk L → DOk L → BytesAt w bb off bs → bs.length = n → 1 ≤ n → n ≤ f → n ≤ 65536 → n ≤ cap → cap ≤ 9223372036854775807 →
    ((L.length + 2 * n : Nat) : Int) ≤ most → L.length + 2 * n ≤ 1048576 →
    Calls Tryz.prog 22 #[.pointer (some ⟨p, 0, none⟩), .slice (some ⟨bb, off, none⟩) n cap] w fun e w' => e = .returned (.tuple #[.int .i64 (textR f L bs).2, .nilIface]) ∧ Stepped w w' p mb most sv (textR f L bs).1 := by
 intro f
 induction f with
 | zero => intro w p mb most sv L bb off n cap bs _ _ _ _ _ h1 h2; omega
 | succ f ih =>
  intro w p mb most sv L bb off n cap bs hS hO hD hB hlen h1 h2 h3 hc hc2 hm hL
  by_cases hn : n = 1
  · have e1 : (textR (f + 1) L bs) = (addL L (letterEnt (bs.getD 0 0)), addI L (letterEnt (bs.getD 0 0))) := by
      unfold textR; rw [if_pos (by omega)]
    rw [e1]
    have e2 : bs.getD 0 0 = bs[0]'(by omega) := by rw [List.getD_eq_getElem?_getD, List.getElem?_eq_getElem (by omega)]; rfl
    rw [e2]
    have hr := hB.rng (bs[0]'(by omega)) (List.getElem_mem _)
    have CL := Lib.hid (st_Letter hS (bs[0]'(by omega)) hr.1 hr.2 (by omega) (by omega))
    have hb0 := hB.cell 0 (by omega)
    rw [Nat.add_zero] at hb0
    generalize bs[0]'(by omega) = b at *
    subst hn
    clear ih hS hO hD hB e1 e2 hm hlen
    go_enter Tryz.func22, Tryz.ntmps22
    go_wp2_with fail
    refine CL.out.mono ?_
    rintro e w1 ⟨rfl, hst⟩
    go_wp2_with fail
    go_ret2
    exact ⟨rfl, hst⟩
  · have e1 : (textR (f + 1) L bs) = (addL (textR f (textR f L (bs.take (n / 2))).1 (bs.drop (n / 2))).1 (pairEnt (textR f (textR f L (bs.take (n / 2))).1 (bs.drop (n / 2))).1 (textR f L (bs.take (n / 2))).2 (textR f (textR f L (bs.take (n / 2))).1 (bs.drop (n / 2))).2), addI (textR f (textR f L (bs.take (n / 2))).1 (bs.drop (n / 2))).1 (pairEnt (textR f (textR f L (bs.take (n / 2))).1 (bs.drop (n / 2))).1 (textR f L (bs.take (n / 2))).2 (textR f (textR f L (bs.take (n / 2))).1 (bs.drop (n / 2))).2)) := by
      conv => lhs; unfold textR
      rw [if_neg (by omega), hlen]
    rw [e1]
    have la : (bs.take (n / 2)).length = n / 2 := by simp; omega
    have lb : (bs.drop (n / 2)).length = n - n / 2 := by simp; omega
    have ta := textR_ok f L (bs.take (n / 2)) hO hD (by omega) (by omega) (by omega) (hB.take _).rng
    have tb := textR_ok f (textR f L (bs.take (n / 2))).1 (bs.drop (n / 2)) ta.sok ta.dok (by omega) (by omega) (by omega) (hB.drop _).rng
    rw [la] at ta
    rw [lb] at tb
    have c1 := ih w p mb most sv L bb off (n / 2) cap (bs.take (n / 2)) hS hO hD (hB.take _) la (by omega) (by omega) (by omega) (by omega) hc2 (by omega) (by omega)
    have hla := ta.len
    have hlb := tb.len
    have c2 := fun w1 sv1 (h : St w1 p mb most sv1 (textR f L (bs.take (n / 2))).1) (hb : BytesAt w1 bb off bs) => ih w1 p mb most sv1 _ bb (off + n / 2) (n - n / 2) (cap - n / 2) (bs.drop (n / 2)) h ta.sok ta.dok (hb.drop _) lb (by omega) (by omega) (by omega) (by omega) (by omega) (by omega) (by omega)
    obtain ⟨M2, eM⟩ := tb.ext
    have ka : isKnown (textR f (textR f L (bs.take (n / 2))).1 (bs.drop (n / 2))).1 (textR f L (bs.take (n / 2))).2 := by rw [eM]; exact isKnown_append M2 ta.known
    have ea : entAt (textR f (textR f L (bs.take (n / 2))).1 (bs.drop (n / 2))).1 (textR f L (bs.take (n / 2))).2 = entAt (textR f L (bs.take (n / 2))).1 (textR f L (bs.take (n / 2))).2 := by rw [eM]; exact entAt_append _ M2 _ ta.known
    have hw1 := ta.wlen
    have hw2 := tb.wlen
    have c3 := fun w2 sv2 (h : St w2 p mb most sv2 (textR f (textR f L (bs.take (n / 2))).1 (bs.drop (n / 2))).1) => st_Pair h tb.sok _ _ ka tb.known ta.ne tb.ne (by rw [ea, hw1, hw2]; omega) (by omega) (by omega)
    have hB0 := fun w1 (h : Stepped w w1 p mb most sv (textR f L (bs.take (n / 2))).1) => h.bytes hS hB
    have C1 := Lib.hid c1
    have C2 := Lib.hid c2
    have C3 := Lib.hid c3
    have HB := Lib.hid hB0
    clear c1 c2 c3 hB0 ea ka hw1 hw2 eM ta tb hO hD hB hS ih e1 hla hlb la lb hm hlen
    generalize (textR f (textR f L (bs.take (n / 2))).1 (bs.drop (n / 2))).2 = idb at *
    generalize (textR f (textR f L (bs.take (n / 2))).1 (bs.drop (n / 2))).1 = LB at *
    generalize (textR f L (bs.take (n / 2))).2 = ida at *
    generalize (textR f L (bs.take (n / 2))).1 = LA at *
    have hn1 : ((n : Int) == 1) = false := by simp; omega
    have hb1 : (0 : Int) ≤ (n : Int) / 2 := by omega
    have hb2 : (n : Int) / 2 ≤ (cap : Int) := by omega
    have hb3 : (n : Int) / 2 ≤ (n : Int) := by omega
    go_enter Tryz.func22, Tryz.ntmps22
    go_wp2_with fail
    refine C1.out.mono ?_
    rintro e w1 ⟨rfl, hst1⟩
    have hb := HB.out w1 hst1
    obtain ⟨sv1, hS1, hf1, hv1⟩ := hst1
    have D2 := Lib.hid (C2.out w1 sv1 hS1 hb)
    have HF1 := Lib.hid hf1
    have HV1 := Lib.hid hv1
    clear hb hS1 hf1 hv1 C2 HB C1
    go_wp2_with fail
    refine D2.out.mono ?_
    rintro e w2 ⟨rfl, hst2⟩
    obtain ⟨sv2, hS2, hf2, hv2⟩ := hst2
    have D3 := Lib.hid (C3.out w2 sv2 hS2)
    have HF2 := Lib.hid hf2
    have HV2 := Lib.hid hv2
    clear D2 hS2 hf2 hv2 C3
    go_wp2_with fail
    refine D3.out.mono ?_
    rintro e w3 ⟨rfl, hst3⟩
    go_wp2_with fail
    go_ret2
    exact ⟨rfl, Stepped.next HF1.out HV1.out (Stepped.next HF2.out HV2.out hst3)⟩
set_option maxRecDepth 100000 in
set_option maxHeartbeats 1000000 in
theorem bal_Text {w : World} {p mb : Nat} {most : Int} {sv : Value} {L : List Ent} (hS : St w p mb most sv L) (hO : SOk L) (hD : DOk L) (bb off n cap : Nat) (bs : List Int) (hB : BytesAt w bb off bs) (hlen : bs.length = n) (h1 : 1 ≤ n) (h3 : n ≤ 65536) (hc : n ≤ cap) (hc2 : cap ≤ 9223372036854775807)
    (hm : ((L.length + 2 * n : Nat) : Int) ≤ most) (hL : L.length + 2 * n ≤ 1048576) :
    Calls Tryz.prog 9 #[.pointer (some ⟨p, 0, none⟩), .slice (some ⟨bb, off, none⟩) n cap] w fun e w' => e = .returned (.tuple #[.int .i64 (textR n L bs).2, .nilIface]) ∧ Stepped w w' p mb most sv (textR n L bs).1 := by
 have C1 := Lib.hid (bal_text n w p mb most sv L bb off n cap bs hS hO hD hB hlen h1 (Nat.le_refl _) h3 hc hc2 hm hL)
 have hn0 : ((n : Int) == 0) = false := by simp; omega
 clear hS hO hD hB hlen hm hL
 generalize (textR n L bs).2 = id at *
 generalize (textR n L bs).1 = LB at *
 go_enter Tryz.func9, Tryz.ntmps9
 go_wp2_with fail
 refine C1.out.mono ?_
 rintro e w1 ⟨rfl, hst1⟩
 go_wp2_with fail
 go_ret2
 exact ⟨rfl, hst1⟩
set_option maxRecDepth 100000 in
set_option maxHeartbeats 1000000 in
theorem bal_Text_nil {w : World} {p : Nat} (a : Option Addr) (cap : Nat) :
    Calls Tryz.prog 9 #[.pointer (some ⟨p, 0, none⟩), .slice a 0 cap] w fun e w' => e = .returned (.tuple #[.int .i64 0, .nilIface]) ∧ w = w' := by
 go_enter Tryz.func9, Tryz.ntmps9
 go_wp2_with fail
 go_ret2
 exact ⟨rfl, rfl⟩
end Go.Proofs.YtgldjpldldknoaaGreatDoor
/- The walks of Store.Rule and of package avl. -/
set_option linter.unusedSimpArgs false
set_option linter.unusedVariables false
namespace Go.Proofs.YtgldjpldldknoaaGreatDoor
open Go.RowKit
set_option maxRecDepth 100000 in
set_option maxHeartbeats 400000 in
theorem st_Rule_cell (p lb n cap k : Nat) (id : Int) (x : Ent) (w : World) (hid : id = (k : Int) + 1) (hk : k < n) (hn : n ≤ 1048576)
    (hK : ∀ W, Fr0 w W → Calls Tryz.prog 26 #[.pointer (some ⟨p, 0, none⟩), .int .i64 id] W fun e w' => e = .returned (.bool true) ∧ W = w')
    (hp : w.cell? ⟨p, 1, none⟩ = some (.slice (some ⟨lb, 0, none⟩) n cap))
    (h0 : w.cell? ⟨lb, k * 13, none⟩ = some (.int .i64 x.rule.kind))
    (h1 : w.cell? ⟨lb, k * 13 + 1, none⟩ = some (.int .u8 x.rule.letter))
    (h2 : w.cell? ⟨lb, k * 13 + 2, none⟩ = some (.int .i64 x.rule.left))
    (h3 : w.cell? ⟨lb, k * 13 + 3, none⟩ = some (.int .i64 x.rule.right))
    (h4 : w.cell? ⟨lb, k * 13 + 4, none⟩ = some (.int .i64 x.rule.times)) :
    Calls Tryz.prog 68 #[.pointer (some ⟨p, 0, none⟩), .int .i64 id] w fun e w' => e = .returned (.tuple #[.agg #[.int .i64 x.rule.kind, .int .u8 x.rule.letter, .int .i64 x.rule.left, .int .i64 x.rule.right, .int .i64 x.rule.times], .nilIface]) ∧ Fr0 w w' := by
 subst hid
 have lp := World.block_lt_of_cell? w _ hp
 have ll := World.block_lt_of_cell? w _ h0
 have CK := Lib.hid hK
 have hz : (((k : Int) + 1) == 0) = false := by simp; omega
 clear hK
 go_enter Tryz.func68, Tryz.ntmps68
 go_wp2_with fail
 refine (CK.out _ ((Fr0.refl w).alloc _)).mono ?_
 rintro e w' ⟨rfl, rfl⟩
 go_wp2_with fail
 exact bodyPost_ret (v := .tuple #[.agg #[.int .i64 x.rule.kind, .int .u8 x.rule.letter, .int .i64 x.rule.left, .int .i64 x.rule.right, .int .i64 x.rule.times], .nilIface]) (by simp [results, Tryz.results68, go_sem]) rfl
  ⟨rfl, by (repeat' (first | (with_reducible exact Fr0.refl _) | (with_reducible refine Fr0.setCell ?_ _ _ ?_) | (with_reducible refine Fr0.alloc ?_ _) | (with_reducible refine Fr0.drew ?_))) <;> first | omega | (dsimp only; omega) | (simp; done) | (simp; omega)⟩
theorem st_Rule {w : World} {p mb : Nat} {most : Int} {sv : Value} {L : List Ent} (hS : St w p mb most sv L) (id : Int) (h : isKnown L id) (h0 : id ≠ 0) :
    Calls Tryz.prog 68 #[.pointer (some ⟨p, 0, none⟩), .int .i64 id] w fun e w' => e = .returned (.tuple #[.agg #[.int .i64 (entAt L id).rule.kind, .int .u8 (entAt L id).rule.letter, .int .i64 (entAt L id).rule.left, .int .i64 (entAt L id).rule.right, .int .i64 (entAt L id).rule.times], .nilIface]) ∧ Fr0 w w' := by
 have hK := fun W (hW : Fr0 w W) => st_known_yes (hS.kept0 hW) id h
 obtain ⟨h1, h2⟩ := h
 obtain ⟨k, hk⟩ : ∃ k : Nat, id = (k : Int) + 1 := ⟨(id - 1).toNat, by omega⟩
 subst hk
 have hlt : k < L.length := by omega
 obtain ⟨lb, cap, rfl, hc⟩ := owned_ent hS (List.getElem?_eq_getElem hlt)
 rw [entAt_succ L k hlt]
 exact st_Rule_cell p lb L.length cap k _ L[k] w rfl hlt hS.big hK (cells3 hS.ptr).2.1 (hc 0 _ rfl) (hc 1 _ rfl) (hc 2 _ rfl) (hc 3 _ rfl) (hc 4 _ rfl)
structure Kp (B mb : Nat) (w w' : World) : Prop where
 os : w'.os = w.os
 tape : w'.tape = w.tape
 output : w'.output = w.output
 size : w.heap.size ≤ w'.heap.size
 low : ∀ k : Nat, k < B → k < w.heap.size → w'.heap[k]? = w.heap[k]?
 cells : ∀ (k : Nat) (cs : Array Value) (t : TypeId) (f : Nat × Nat), w.heap[k]? = some (Obj.cells cs t f) → t ≠ 100 → t ≠ 84 → w'.heap[k]? = some (.cells cs t f)
 maps : ∀ (k : Nat) (es : Array MapEntry) (n : Nat), w.heap[k]? = some (Obj.map es n) → k ≠ mb → w'.heap[k]? = some (.map es n)
theorem Kp.refl (B mb : Nat) (w : World) : Kp B mb w w := ⟨rfl, rfl, rfl, Nat.le_refl _, fun _ _ _ => rfl, fun _ _ _ _ h _ _ => h, fun _ _ _ h _ => h⟩
theorem Kp.trans {B mb : Nat} {a b c : World} (h : Kp B mb a b) (k : Kp B mb b c) : Kp B mb a c :=
 ⟨k.os.trans h.os, k.tape.trans h.tape, k.output.trans h.output, Nat.le_trans h.size k.size,
  fun i h1 h2 => (k.low i h1 (Nat.lt_of_lt_of_le h2 h.size)).trans (h.low i h1 h2),
  fun i cs t f h1 h2 h3 => k.cells i cs t f (h.cells i cs t f h1 h2 h3) h2 h3, fun i es n h1 h2 => k.maps i es n (h.maps i es n h1 h2) h2⟩
theorem Kp.of0 {B mb : Nat} {w w' : World} (h : Fr0 w w') : Kp B mb w w' :=
 ⟨h.os, h.tape, h.output, h.size, fun i _ h2 => h.block i h2 id, fun _ _ _ _ h1 _ _ => h.kept h1, fun _ _ _ h1 _ => h.kept h1⟩
theorem Kp.below {B mb : Nat} {w w' : World} (h : Kp B mb w w') (hB : B ≤ w.heap.size) : Below B w w' :=
 ⟨h.os, h.tape, h.output, h.size, fun k hk => h.low k hk (by omega)⟩
theorem Kp.owns {B mb : Nat} {w w' : World} (h : Kp B mb w w') {base : Nat} {e : TypeId} {size n : Nat} {v : Value} {xs : List Value}
    (ho : w.ownsRow base e size v n xs) (h1 : e ≠ 100) (h2 : e ≠ 84) : w'.ownsRow base e size v n xs := by
 refine ⟨ho.1, ?_⟩
 rcases ho.2 with h3 | ⟨g, cap, cur, h3, hb, hg, r⟩
 · exact .inl h3
 · exact .inr ⟨g, cap, cur, h3, hb, h.cells _ _ _ _ hg h1 h2, r⟩
def Sto (B : Nat) (w : World) (p mb : Nat) (most : Int) (L : List Ent) : Prop := ∃ sv, St w p mb most sv L ∧ B ≤ p ∧ B ≤ mb ∧ ∀ k, sv.ownBlock = some k → B ≤ k
theorem Sto.kept0 {B : Nat} {w w' : World} {p mb : Nat} {most : Int} {L : List Ent} (h : Sto B w p mb most L) (hf : Fr0 w w') : Sto B w' p mb most L := by
 obtain ⟨sv, h1, h2⟩ := h
 exact ⟨sv, h1.kept0 hf, h2⟩
theorem Sto.step {B : Nat} {w w' : World} {p mb : Nat} {most : Int} {sv : Value} {L L' : List Ent} (hS : St w p mb most sv L) (h1 : B ≤ p) (h2 : B ≤ mb) (h3 : ∀ k, sv.ownBlock = some k → B ≤ k) (hB : B ≤ w.heap.size) (h : Stepped w w' p mb most sv L') :
    Sto B w' p mb most L' ∧ Kp B mb w w' := by
 have hb := @Stepped.block w w' p mb most sv L L' hS h
 obtain ⟨sv', hS', hf, hv⟩ := h
 refine ⟨⟨sv', hS', h1, h2, fun k hk => (hv k hk).elim (h3 k) (fun h => by omega)⟩, ⟨hf.os, hf.tape, hf.output, hf.size, fun k hk hlt => hf.block k hlt ?_, fun k cs t f e n1 n2 => hb e n1 n2, fun k es n e ne => hf.kept e ?_⟩⟩
 · rintro (e | e | e)
   · omega
   · omega
   · have := h3 k e; omega
 · rintro (e' | e' | e')
   · rw [e', hS.ptr] at e; simp at e
   · exact ne e'
   · rcases hS.own.2 with ⟨e1, _⟩ | ⟨g, cap, cur, e1, _, hg, _⟩
     · rw [e1] at e'; simp [Value.ownBlock] at e'
     · rw [e1] at e'
       simp [Value.ownBlock] at e'
       subst e'
       rw [hg] at e; simp at e
structure Room (B : Nat) (w : World) (p mb : Nat) (most : Int) (L : List Ent) (n : Nat) : Prop where
 st : Sto B w p mb most L
 base : B ≤ w.heap.size
 sok : SOk L
 dok : DOk L
 most : ((L.length + n : Nat) : Int) ≤ most
 big : L.length + n ≤ 1048576
theorem Room.kept0 {B : Nat} {w w' : World} {p mb : Nat} {most : Int} {L : List Ent} {n : Nat} (h : Room B w p mb most L n) (hf : Fr0 w w') : Room B w' p mb most L n := ⟨h.st.kept0 hf, Nat.le_trans h.base hf.size, h.sok, h.dok, h.most, h.big⟩
theorem Room.less {B : Nat} {w : World} {p mb : Nat} {most : Int} {L : List Ent} {n m : Nat} (h : Room B w p mb most L n) (hm : m ≤ n) : Room B w p mb most L m := ⟨h.st, h.base, h.sok, h.dok, by have := h.most; omega, by have := h.big; omega⟩
theorem Room.next {B : Nat} {w w' : World} {p mb : Nat} {most : Int} {L L' : List Ent} {n m k : Nat} (h : Room B w p mb most L n) (hS : Sto B w' p mb most L') (hK : Kp B mb w w') (hg : Grows L L' m) (hk : m + k ≤ n) : Room B w' p mb most L' k :=
 ⟨hS, Nat.le_trans h.base hK.size, hg.sok, hg.dok, by have := h.most; have := hg.len; omega, by have := h.big; have := hg.len; omega⟩
theorem Grows.le {A B : List Ent} {m n : Nat} (h : Grows A B m) (hk : m ≤ n) : Grows A B n := ⟨h.ext, by have := h.len; omega, h.sok, h.dok, h.uq⟩
theorem sto_Depth {B : Nat} {w : World} {p mb : Nat} {most : Int} {L : List Ent} (h : Sto B w p mb most L) (id : Int) (hk : isKnown L id) :
    Calls Tryz.prog 42 #[.pointer (some ⟨p, 0, none⟩), .int .i64 id] w fun e w' => e = .returned (.tuple #[.int .i64 (entAt L id).depth, .nilIface]) ∧ Fr0 w w' := by
 obtain ⟨sv, hS, _⟩ := h; exact st_Depth hS id hk
theorem sto_Weight {B : Nat} {w : World} {p mb : Nat} {most : Int} {L : List Ent} (h : Sto B w p mb most L) (id : Int) (hk : isKnown L id) :
    Calls Tryz.prog 11 #[.pointer (some ⟨p, 0, none⟩), .int .i64 id] w fun e w' => e = .returned (.tuple #[.agg #[.int .i64 (entAt L id).wt.len, .int .i64 (entAt L id).wt.lines, .int .i64 (entAt L id).wt.head, .int .i64 (entAt L id).wt.tail, .int .u64 (entAt L id).wt.val, .int .u64 (entAt L id).wt.scale], .nilIface]) ∧ Fr0 w w' := by
 obtain ⟨sv, hS, _⟩ := h; exact st_Weight hS id hk
theorem sto_Even {B : Nat} {w : World} {p mb : Nat} {most : Int} {L : List Ent} (h : Sto B w p mb most L) (id : Int) (hk : isKnown L id) :
    Calls Tryz.prog 43 #[.pointer (some ⟨p, 0, none⟩), .int .i64 id] w fun e w' => e = .returned (.bool (entAt L id).even) ∧ Fr0 w w' := by
 obtain ⟨sv, hS, _⟩ := h; exact st_Even hS id hk
theorem sto_Rule {B : Nat} {w : World} {p mb : Nat} {most : Int} {L : List Ent} (h : Sto B w p mb most L) (id : Int) (hk : isKnown L id) (h0 : id ≠ 0) :
    Calls Tryz.prog 68 #[.pointer (some ⟨p, 0, none⟩), .int .i64 id] w fun e w' => e = .returned (.tuple #[.agg #[.int .i64 (entAt L id).rule.kind, .int .u8 (entAt L id).rule.letter, .int .i64 (entAt L id).rule.left, .int .i64 (entAt L id).rule.right, .int .i64 (entAt L id).rule.times], .nilIface]) ∧ Fr0 w w' := by
 obtain ⟨sv, hS, _⟩ := h; exact st_Rule hS id hk h0
def APost (B : Nat) (w : World) (p mb : Nat) (most : Int) (L : List Ent) (t : List Int) (D : Int → Nat → Prop) (e : Ending) (w' : World) : Prop :=
 ∃ L' id d k, e = .returned (.tuple #[.int .i64 id, .nilIface]) ∧ Sto B w' p mb most L' ∧ Kp B mb w w' ∧ Grows L L' k ∧ Bal L' id t d ∧ D d k
theorem APost.ret {B : Nat} {w : World} {p mb : Nat} {most : Int} {L : List Ent} {t : List Int} {D : Int → Nat → Prop} {e : Ending} {w' : World} (h : APost B w p mb most L t D e w') : ∃ id, e = .returned (.tuple #[.int .i64 id, .nilIface]) := by
 obtain ⟨L', id, d, k, h1, _⟩ := h
 exact ⟨id, h1⟩
theorem APost.mono {B : Nat} {w : World} {p mb : Nat} {most : Int} {L : List Ent} {t u : List Int} {D E : Int → Nat → Prop} {e : Ending} {w' : World} (h : APost B w p mb most L t D e w') (ht : t = u) (hD : ∀ d k, D d k → E d k) : APost B w p mb most L u E e w' := by
 obtain ⟨L', id, d, k, h1, h2, h3, h4, h5, h6⟩ := h
 subst ht
 exact ⟨L', id, d, k, h1, h2, h3, h4, h5, hD d k h6⟩
theorem APost.before {B : Nat} {w w1 : World} {p mb : Nat} {most : Int} {L : List Ent} {t : List Int} {D : Int → Nat → Prop} {e : Ending} {w' : World} (h0 : Fr0 w w1) (h : APost B w1 p mb most L t D e w') : APost B w p mb most L t D e w' := by
 obtain ⟨L', id, d, k, h1, h2, h3, h4, h5, h6⟩ := h
 exact ⟨L', id, d, k, h1, h2, (Kp.of0 h0).trans h3, h4, h5, h6⟩
theorem APost.next {B : Nat} {w w1 : World} {p mb : Nat} {most : Int} {L L1 : List Ent} {k1 : Nat} {t : List Int} {D E : Int → Nat → Prop} {e : Ending} {w' : World} (hK : Kp B mb w w1) (hg : Grows L L1 k1) (h : APost B w1 p mb most L1 t D e w') (hD : ∀ d k, D d k → E d (k1 + k)) : APost B w p mb most L t E e w' := by
 obtain ⟨L', id, d, k, h1, h2, h3, h4, h5, h6⟩ := h
 exact ⟨L', id, d, k1 + k, h1, h2, hK.trans h3, hg.trans h4 (Nat.le_refl _), h5, hD d k h6⟩
theorem avl_pair {B : Nat} {w : World} {p mb : Nat} {most : Int} {L : List Ent} (hR : Room B w p mb most L 1) {a b : Int} {s t : List Int} {da db : Int} (ha : Bal L a s da) (hb : Bal L b t db) (h1 : -1 ≤ da - db) (h2 : da - db ≤ 1) (hl : (s.length : Int) + t.length ≤ 1152921504606846976) :
    Calls Tryz.prog 41 #[.pointer (some ⟨p, 0, none⟩), .int .i64 a, .int .i64 b] w (APost B w p mb most L (s ++ t) (fun d k => d = 1 + max da db ∧ k ≤ 1)) := by
 have la := bal_len hR.dok hR.sok a.toNat a (Nat.le_refl _) ha.known ha.even
 have lb := bal_len hR.dok hR.sok b.toNat b (Nat.le_refl _) hb.known hb.even
 rw [ha.text] at la
 rw [hb.text] at lb
 have hm := hR.most
 have hbg := hR.big
 obtain ⟨sv, hS, q1, q2, q3⟩ := hR.st
 refine (st_Pair hS hR.sok a b ha.known hb.known ha.ne hb.ne (by omega) (by omega) (by omega)).mono ?_
 rintro e w' ⟨rfl, hst⟩
 obtain ⟨g, bb⟩ := bal_pair hR.sok hR.dok ha hb h1 h2 hl
 obtain ⟨r1, r2⟩ := Sto.step hS q1 q2 q3 hR.base hst
 exact ⟨_, _, _, 1, rfl, r1, r2, g, bb, rfl, Nat.le_refl _⟩
set_option maxRecDepth 100000 in
set_option maxHeartbeats 1000000 in
theorem avl_parts {B : Nat} {w : World} {p mb : Nat} {most : Int} {L : List Ent} (hS : Sto B w p mb most L) (id l r dl dr : Int) (hk : isKnown L id) (h0 : id ≠ 0) (hru : (entAt L id).rule = ⟨2, 0, l, r, 0⟩) (hl : isKnown L l) (hr : isKnown L r) (hdl : (entAt L l).depth = dl) (hdr : (entAt L r).depth = dr) :
    Calls Tryz.prog 74 #[.pointer (some ⟨p, 0, none⟩), .int .i64 id] w fun e w' => e = .returned (.tuple #[.int .i64 l, .int .i64 r, .int .i64 dl, .int .i64 dr, .nilIface]) ∧ Fr0 w w' := by
 have c1 := sto_Rule hS id hk h0
 rw [hru] at c1
 have C1 := Lib.hid c1
 have C2 := Lib.hid (fun W (hW : Fr0 w W) => sto_Depth (hS.kept0 hW) l hl)
 have C3 := Lib.hid (fun W (hW : Fr0 w W) => sto_Depth (hS.kept0 hW) r hr)
 rw [hdl] at C2
 rw [hdr] at C3
 clear c1 hS hru hl hr hdl hdr hk h0
 go_enter Tryz.func74, Tryz.ntmps74
 go_wp2_with fail
 refine C1.out.mono ?_
 rintro e w1 ⟨rfl, hf1⟩
 go_wp2_with fail
 refine (C2.out _ (hf1.alloc _)).mono ?_
 rintro e w2 ⟨rfl, hf2⟩
 obtain ⟨g1, g2⟩ := hf2.cells
 have hs2 := hf2.size'
 simp at hs2
 go_wp2_with fail
 refine (C3.out _ ((hf1.alloc _).trans hf2)).mono ?_
 rintro e w3 ⟨rfl, hf3⟩
 have hr3 := hf3.kept (hf2.kept (b := w1.heap.size) (alloc_at w1 _ _ rfl))
 obtain ⟨r1, r2, r3, r4, r5, lr⟩ := cells5 hr3
 clear g1 g2 hs2 hr3
 go_wp2_with fail
 go_quiet (fail)
 go_wp2_with fail
 exact bodyPost_ret (v := .tuple #[.int .i64 l, .int .i64 r, .int .i64 dl, .int .i64 dr, .nilIface]) (by simp [results, Tryz.results74, go_sem]) rfl ⟨rfl, (((hf1.alloc _).trans hf2).trans hf3).drewN _⟩
set_option maxRecDepth 100000 in
set_option maxHeartbeats 1000000 in
theorem avl_two {B : Nat} {w : World} {p mb : Nat} {most : Int} {L : List Ent} (hR : Room B w p mb most L 2) {a b c : Int} {s t u : List Int} {da db dc : Int} (ha : Bal L a s da) (hb : Bal L b t db) (hc : Bal L c u dc)
    (h1 : -1 ≤ db - dc) (h2 : db - dc ≤ 1) (h3 : -1 ≤ da - (1 + max db dc)) (h4 : da - (1 + max db dc) ≤ 1) (hl : (s.length : Int) + t.length + u.length ≤ 1152921504606846976) :
    Calls Tryz.prog 94 #[.pointer (some ⟨p, 0, none⟩), .int .i64 a, .int .i64 b, .int .i64 c] w (APost B w p mb most L (s ++ (t ++ u)) (fun d k => d = 1 + max da (1 + max db dc) ∧ k ≤ 2)) := by
 have C1 := Lib.hid (avl_pair (hR.less (by omega)) hb hc h1 h2 (by omega))
 have HR := Lib.hid hR
 have HA := Lib.hid ha
 clear hR ha hb hc
 go_enter Tryz.func94, Tryz.ntmps94
 go_wp2_with fail
 refine C1.out.mono ?_
 rintro e w1 ⟨L1, r, d, k, rfl, hS1, hK1, g, bb, hd, hk⟩
 subst hd
 have C2 := Lib.hid (avl_pair (HR.out.next hS1 hK1 g (by omega)) (g.bal HR.out.dok HA.out) bb h3 h4 (by rw [List.length_append]; omega))
 have HK := Lib.hid hK1
 have HG := Lib.hid g
 clear hS1 hK1 g bb C1
 go_wp2_with fail
 refine C2.out.mono ?_
 rintro e w2 hx
 obtain ⟨id, rfl⟩ := hx.ret
 have HX := Lib.hid (APost.next (E := fun d k => d = 1 + max da (1 + max db dc) ∧ k ≤ 2) HK.out HG.out hx (fun d k h => ⟨h.1, by omega⟩))
 clear hx C2
 go_wp2_with fail
 go_ret2
 exact HX.out
set_option maxRecDepth 100000 in
set_option maxHeartbeats 1000000 in
theorem avl_four {B : Nat} {w : World} {p mb : Nat} {most : Int} {L : List Ent} (hR : Room B w p mb most L 3) {a b c d : Int} {s t u v : List Int} {da db dc dd : Int} (ha : Bal L a s da) (hb : Bal L b t db) (hc : Bal L c u dc) (hd : Bal L d v dd)
    (h1 : -1 ≤ da - db) (h2 : da - db ≤ 1) (h3 : -1 ≤ dc - dd) (h4 : dc - dd ≤ 1) (h5 : -1 ≤ (1 + max da db) - (1 + max dc dd)) (h6 : (1 + max da db) - (1 + max dc dd) ≤ 1) (hl : (s.length : Int) + t.length + u.length + v.length ≤ 1152921504606846976) :
    Calls Tryz.prog 95 #[.pointer (some ⟨p, 0, none⟩), .int .i64 a, .int .i64 b, .int .i64 c, .int .i64 d] w (APost B w p mb most L ((s ++ t) ++ (u ++ v)) (fun d k => d = 1 + max (1 + max da db) (1 + max dc dd) ∧ k ≤ 3)) := by
 have C1 := Lib.hid (avl_pair (hR.less (by omega)) ha hb h1 h2 (by omega))
 have HR := Lib.hid hR
 have HC := Lib.hid hc
 have HD := Lib.hid hd
 clear hR ha hb hc hd
 go_enter Tryz.func95, Tryz.ntmps95
 go_wp2_with fail
 refine C1.out.mono ?_
 rintro e w1 ⟨L1, r, dr, k, rfl, hS1, hK1, g, bb, hdr, hk⟩
 subst hdr
 have C2 := Lib.hid (avl_two (HR.out.next hS1 hK1 g (by omega)) bb (g.bal HR.out.dok HC.out) (g.bal HR.out.dok HD.out) h3 h4 h5 h6 (by rw [List.length_append]; omega))
 have HK := Lib.hid hK1
 have HG := Lib.hid g
 clear hS1 hK1 g bb C1
 go_wp2_with fail
 refine C2.out.mono ?_
 rintro e w2 hx
 obtain ⟨id, rfl⟩ := hx.ret
 have HX := Lib.hid (APost.next (E := fun d k => d = 1 + max (1 + max da db) (1 + max dc dd) ∧ k ≤ 3) HK.out HG.out hx (fun d k h => ⟨h.1, by omega⟩))
 clear hx C2
 go_wp2_with fail
 go_ret2
 exact HX.out
end Go.Proofs.YtgldjpldldknoaaGreatDoor
/- The walks of avl.level, avl.join and avl.Join. -/
set_option linter.unusedSimpArgs false
set_option linter.unusedVariables false
namespace Go.Proofs.YtgldjpldldknoaaGreatDoor
open Go.RowKit
def levD (da db d : Int) : Prop := max da db ≤ d ∧ d ≤ max da db + 1 ∧ (-1 ≤ da - db → da - db ≤ 1 → d = 1 + max da db)
theorem Room.depth {B : Nat} {w : World} {p mb : Nat} {most : Int} {L : List Ent} {n : Nat} (h : Room B w p mb most L n) {a : Int} {s : List Int} {d : Int} (ha : Bal L a s d) : 0 ≤ d ∧ d ≤ 1048576 := by
 have := h.sok.at a ha.known
 rw [ha.depth] at this
 have := h.big
 omega
set_option maxRecDepth 100000 in
set_option maxHeartbeats 2000000 in
theorem avl_level_a {B : Nat} {w : World} {p mb : Nat} {most : Int} {L : List Ent} (hR : Room B w p mb most L 3) {a b : Int} {s t : List Int} {da db : Int} (ha : Bal L a s da) (hb : Bal L b t db) (hA : da = db + 2) (hl : (s.length : Int) + t.length ≤ 1152921504606846976) :
    Calls Tryz.prog 75 #[.pointer (some ⟨p, 0, none⟩), .int .i64 a, .int .i64 b] w (APost B w p mb most L (s ++ t) (fun d k => levD da db d ∧ k ≤ 3)) := by
 have CDA := Lib.hid (fun W (hW : Fr0 w W) => sto_Depth (hR.st.kept0 hW) a ha.known)
 rw [ha.depth] at CDA
 have CDB := Lib.hid (fun W (hW : Fr0 w W) => sto_Depth (hR.st.kept0 hW) b hb.known)
 rw [hb.depth] at CDB
 obtain ⟨a0, a1⟩ := hR.depth ha
 obtain ⟨b0, b1⟩ := hR.depth hb
 have HR := Lib.hid hR
 have HA := Lib.hid ha
 have HB := Lib.hid hb
 clear hR ha hb
 obtain ⟨l, r, tl, tr, dl, dr, hru, hbl, hbr, hst, hdd, hd1, hd2⟩ := bal_parts HR.out.dok HA.out (by omega)
 have CP := Lib.hid (fun W (hW : Fr0 w W) => avl_parts (HR.out.st.kept0 hW) a l r dl dr HA.out.known HA.out.ne hru hbl.known hbr.known hbl.depth hbr.depth)
 have hlen : (s.length : Int) = tl.length + tr.length := by rw [hst, List.length_append]; omega
 have d1 : decide (db + 1 < da) = true := decide_eq_true (by omega)
 by_cases hge : dr ≤ dl
 · have CT := Lib.hid (fun W (hW : Fr0 w W) => avl_two ((HR.out.kept0 hW).less (by omega)) hbl hbr HB.out (by omega) (by omega) (by omega) (by omega) (by omega))
   have HST := Lib.hid hst
   have HHA := Lib.hid (And.intro hA hdd)
   clear hru hbl hbr hst hA hdd hlen
   go_enter Tryz.func75, Tryz.ntmps75
   go_wp2_with fail
   refine (CDA.out _ (Fr0.refl w)).mono ?_
   rintro e w1 ⟨rfl, f1⟩
   go_wp2_with fail
   refine (CDB.out _ f1).mono ?_
   rintro e w2 ⟨rfl, f2⟩
   have F2 := f1.trans f2
   clear f1 f2
   go_wp2_with fail
   refine (CP.out _ F2).mono ?_
   rintro e w3 ⟨rfl, f3⟩
   have F3 := F2.trans f3
   clear f3
   go_wp2_with fail
   refine (CT.out _ F3).mono ?_
   rintro e wz hx
   obtain ⟨id, rfl⟩ := hx.ret
   have HX : Hid (APost B w p mb most L (s ++ t) (fun d k => levD da db d ∧ k ≤ 3) (.returned (.tuple #[.int .i64 id, .nilIface])) wz) := (hx.before F3).mono (by rw [HST.out]; simp) (fun d k hd => by have := HHA.out; unfold levD; omega)
   clear hx
   go_wp2_with fail
   go_ret2
   exact HX.out
 · obtain ⟨l2, r2, tl2, tr2, dl2, dr2, hru2, hbl2, hbr2, hst2, hdd2, hd12, hd22⟩ := bal_parts HR.out.dok hbr (by omega)
   have CQ := Lib.hid (fun W (hW : Fr0 w W) => avl_parts (HR.out.st.kept0 hW) r l2 r2 dl2 dr2 hbr.known hbr.ne hru2 hbl2.known hbr2.known hbl2.depth hbr2.depth)
   have hlen2 : (tr.length : Int) = tl2.length + tr2.length := by rw [hst2, List.length_append]; omega
   have CT := Lib.hid (fun W (hW : Fr0 w W) => avl_four (HR.out.kept0 hW) hbl hbl2 hbr2 HB.out (by omega) (by omega) (by omega) (by omega) (by omega) (by omega) (by omega))
   have HST := Lib.hid hst
   have HST2 := Lib.hid hst2
   have HHA := Lib.hid (And.intro hA (And.intro hdd hdd2))
   have d2 : decide (dr ≤ dl) = false := decide_eq_false hge
   clear hru hbl hbr hst hA hdd hlen hru2 hbl2 hbr2 hst2 hdd2 hlen2
   go_enter Tryz.func75, Tryz.ntmps75
   go_wp2_with fail
   refine (CDA.out _ (Fr0.refl w)).mono ?_
   rintro e w1 ⟨rfl, f1⟩
   go_wp2_with fail
   refine (CDB.out _ f1).mono ?_
   rintro e w2 ⟨rfl, f2⟩
   have F2 := f1.trans f2
   clear f1 f2
   go_wp2_with fail
   refine (CP.out _ F2).mono ?_
   rintro e w3 ⟨rfl, f3⟩
   have F3 := F2.trans f3
   clear f3
   go_wp2_with fail
   refine (CQ.out _ F3).mono ?_
   rintro e w4 ⟨rfl, f4⟩
   have F4 := F3.trans f4
   clear f4
   go_wp2_with fail
   refine (CT.out _ F4).mono ?_
   rintro e wz hx
   obtain ⟨id, rfl⟩ := hx.ret
   have HX : Hid (APost B w p mb most L (s ++ t) (fun d k => levD da db d ∧ k ≤ 3) (.returned (.tuple #[.int .i64 id, .nilIface])) wz) := (hx.before F4).mono (by rw [HST.out, HST2.out]; simp) (fun d k hd => by have := HHA.out; unfold levD; omega)
   clear hx
   go_wp2_with fail
   go_ret2
   exact HX.out
set_option maxRecDepth 100000 in
set_option maxHeartbeats 2000000 in
theorem avl_level_b {B : Nat} {w : World} {p mb : Nat} {most : Int} {L : List Ent} (hR : Room B w p mb most L 3) {a b : Int} {s t : List Int} {da db : Int} (ha : Bal L a s da) (hb : Bal L b t db) (hA : db = da + 2) (hl : (s.length : Int) + t.length ≤ 1152921504606846976) :
    Calls Tryz.prog 75 #[.pointer (some ⟨p, 0, none⟩), .int .i64 a, .int .i64 b] w (APost B w p mb most L (s ++ t) (fun d k => levD da db d ∧ k ≤ 3)) := by
 have CDA := Lib.hid (fun W (hW : Fr0 w W) => sto_Depth (hR.st.kept0 hW) a ha.known)
 rw [ha.depth] at CDA
 have CDB := Lib.hid (fun W (hW : Fr0 w W) => sto_Depth (hR.st.kept0 hW) b hb.known)
 rw [hb.depth] at CDB
 obtain ⟨a0, a1⟩ := hR.depth ha
 obtain ⟨b0, b1⟩ := hR.depth hb
 have HR := Lib.hid hR
 have HA := Lib.hid ha
 have HB := Lib.hid hb
 clear hR ha hb
 obtain ⟨l, r, tl, tr, dl, dr, hru, hbl, hbr, hst, hdd, hd1, hd2⟩ := bal_parts HR.out.dok HB.out (by omega)
 have CP := Lib.hid (fun W (hW : Fr0 w W) => avl_parts (HR.out.st.kept0 hW) b l r dl dr HB.out.known HB.out.ne hru hbl.known hbr.known hbl.depth hbr.depth)
 have hlen : (t.length : Int) = tl.length + tr.length := by rw [hst, List.length_append]; omega
 have d0 : decide (db + 1 < da) = false := decide_eq_false (by omega)
 have d1 : decide (da + 1 < db) = true := decide_eq_true (by omega)
 by_cases hge : dr < dl
 · obtain ⟨l2, r2, tl2, tr2, dl2, dr2, hru2, hbl2, hbr2, hst2, hdd2, hd12, hd22⟩ := bal_parts HR.out.dok hbl (by omega)
   have CQ := Lib.hid (fun W (hW : Fr0 w W) => avl_parts (HR.out.st.kept0 hW) l l2 r2 dl2 dr2 hbl.known hbl.ne hru2 hbl2.known hbr2.known hbl2.depth hbr2.depth)
   have hlen2 : (tl.length : Int) = tl2.length + tr2.length := by rw [hst2, List.length_append]; omega
   have CT := Lib.hid (fun W (hW : Fr0 w W) => avl_four (HR.out.kept0 hW) HA.out hbl2 hbr2 hbr (by omega) (by omega) (by omega) (by omega) (by omega) (by omega) (by omega))
   have HST := Lib.hid hst
   have HST2 := Lib.hid hst2
   have HHA := Lib.hid (And.intro hA (And.intro hdd hdd2))
   clear hru hbl hbr hst hA hdd hlen hru2 hbl2 hbr2 hst2 hdd2 hlen2
   go_enter Tryz.func75, Tryz.ntmps75
   go_wp2_with fail
   refine (CDA.out _ (Fr0.refl w)).mono ?_
   rintro e w1 ⟨rfl, f1⟩
   go_wp2_with fail
   refine (CDB.out _ f1).mono ?_
   rintro e w2 ⟨rfl, f2⟩
   have F2 := f1.trans f2
   clear f1 f2
   go_wp2_with fail
   refine (CP.out _ F2).mono ?_
   rintro e w3 ⟨rfl, f3⟩
   have F3 := F2.trans f3
   clear f3
   go_wp2_with fail
   refine (CQ.out _ F3).mono ?_
   rintro e w4 ⟨rfl, f4⟩
   have F4 := F3.trans f4
   clear f4
   go_wp2_with fail
   refine (CT.out _ F4).mono ?_
   rintro e wz hx
   obtain ⟨id, rfl⟩ := hx.ret
   have HX : Hid (APost B w p mb most L (s ++ t) (fun d k => levD da db d ∧ k ≤ 3) (.returned (.tuple #[.int .i64 id, .nilIface])) wz) := (hx.before F4).mono (by rw [HST.out, HST2.out]; simp) (fun d k hd => by have := HHA.out; unfold levD; omega)
   clear hx
   go_wp2_with fail
   go_ret2
   exact HX.out
 · have C1 := Lib.hid (fun W (hW : Fr0 w W) => avl_pair ((HR.out.kept0 hW).less (by omega)) HA.out hbl (by omega) (by omega) (by omega))
   have HST := Lib.hid hst
   have HBR := Lib.hid hbr
   have HHA := Lib.hid (And.intro hA hdd)
   have d2 : decide (dr < dl) = false := decide_eq_false hge
   have HL := Lib.hid hlen
   clear hru hbl hbr hst hA hdd hlen
   go_enter Tryz.func75, Tryz.ntmps75
   go_wp2_with fail
   refine (CDA.out _ (Fr0.refl w)).mono ?_
   rintro e w1 ⟨rfl, f1⟩
   go_wp2_with fail
   refine (CDB.out _ f1).mono ?_
   rintro e w2 ⟨rfl, f2⟩
   have F2 := f1.trans f2
   clear f1 f2
   go_wp2_with fail
   refine (CP.out _ F2).mono ?_
   rintro e w3 ⟨rfl, f3⟩
   have F3 := F2.trans f3
   clear f3
   go_wp2_with fail
   refine (C1.out _ F3).mono ?_
   rintro e wz ⟨L1, x, dx, kx, rfl, hS1, hK1, g, bb, hdx, hkx⟩
   subst hdx
   have C2 := Lib.hid (avl_pair ((HR.out.kept0 F3).next hS1 hK1 g (by omega)) bb (g.bal HR.out.dok HBR.out) (by have := HHA.out; omega) (by have := HHA.out; omega) (by have := HL.out; rw [List.length_append]; omega))
   have HK := Lib.hid hK1
   have HG := Lib.hid g
   clear hS1 hK1 g bb C1
   go_wp2_with fail
   refine C2.out.mono ?_
   rintro e w5 hx
   obtain ⟨id, rfl⟩ := hx.ret
   have HX : Hid (APost B w p mb most L (s ++ t) (fun d k => levD da db d ∧ k ≤ 3) (.returned (.tuple #[.int .i64 id, .nilIface])) w5) := (APost.before F3 (APost.next (E := fun d k => d = 1 + max (1 + max da dl) dr ∧ k ≤ 3) HK.out HG.out hx (fun d k h => ⟨h.1, by omega⟩))).mono (by rw [HST.out]; simp) (fun d k hd => by have := HHA.out; unfold levD; omega)
   clear hx C2
   go_wp2_with fail
   go_ret2
   exact HX.out
set_option maxRecDepth 100000 in
set_option maxHeartbeats 2000000 in
theorem avl_level_c {B : Nat} {w : World} {p mb : Nat} {most : Int} {L : List Ent} (hR : Room B w p mb most L 3) {a b : Int} {s t : List Int} {da db : Int} (ha : Bal L a s da) (hb : Bal L b t db) (hA : -1 ≤ da - db ∧ da - db ≤ 1) (hl : (s.length : Int) + t.length ≤ 1152921504606846976) :
    Calls Tryz.prog 75 #[.pointer (some ⟨p, 0, none⟩), .int .i64 a, .int .i64 b] w (APost B w p mb most L (s ++ t) (fun d k => levD da db d ∧ k ≤ 3)) := by
 have CDA := Lib.hid (fun W (hW : Fr0 w W) => sto_Depth (hR.st.kept0 hW) a ha.known)
 rw [ha.depth] at CDA
 have CDB := Lib.hid (fun W (hW : Fr0 w W) => sto_Depth (hR.st.kept0 hW) b hb.known)
 rw [hb.depth] at CDB
 obtain ⟨a0, a1⟩ := hR.depth ha
 obtain ⟨b0, b1⟩ := hR.depth hb
 have HR := Lib.hid hR
 have HA := Lib.hid ha
 have HB := Lib.hid hb
 clear hR ha hb
 have CT := Lib.hid (fun W (hW : Fr0 w W) => avl_pair ((HR.out.kept0 hW).less (by omega)) HA.out HB.out hA.1 hA.2 hl)
 have d0 : decide (db + 1 < da) = false := decide_eq_false (by omega)
 have d1 : decide (da + 1 < db) = false := decide_eq_false (by omega)
 have HHA := Lib.hid hA
 clear hA
 go_enter Tryz.func75, Tryz.ntmps75
 go_wp2_with fail
 refine (CDA.out _ (Fr0.refl w)).mono ?_
 rintro e w1 ⟨rfl, f1⟩
 go_wp2_with fail
 refine (CDB.out _ f1).mono ?_
 rintro e w2 ⟨rfl, f2⟩
 have F2 := f1.trans f2
 clear f1 f2
 go_wp2_with fail
 refine (CT.out _ F2).mono ?_
 rintro e wz hx
 obtain ⟨id, rfl⟩ := hx.ret
 have HX : Hid (APost B w p mb most L (s ++ t) (fun d k => levD da db d ∧ k ≤ 3) (.returned (.tuple #[.int .i64 id, .nilIface])) wz) := (hx.before F2).mono (rfl) (fun d k hd => by have := HHA.out; unfold levD; omega)
 clear hx
 go_wp2_with fail
 go_ret2
 exact HX.out
theorem avl_level {B : Nat} {w : World} {p mb : Nat} {most : Int} {L : List Ent} (hR : Room B w p mb most L 3) {a b : Int} {s t : List Int} {da db : Int} (ha : Bal L a s da) (hb : Bal L b t db) (h1 : -2 ≤ da - db) (h2 : da - db ≤ 2) (hl : (s.length : Int) + t.length ≤ 1152921504606846976) :
    Calls Tryz.prog 75 #[.pointer (some ⟨p, 0, none⟩), .int .i64 a, .int .i64 b] w (APost B w p mb most L (s ++ t) (fun d k => levD da db d ∧ k ≤ 3)) := by
 by_cases h : da = db + 2
 · exact avl_level_a hR ha hb h hl
 · by_cases k : db = da + 2
   · exact avl_level_b hR ha hb k hl
   · exact avl_level_c hR ha hb (by omega) hl
end Go.Proofs.YtgldjpldldknoaaGreatDoor
/- The walks of avl.join and avl.Join. -/
set_option linter.unusedSimpArgs false
set_option linter.unusedVariables false
namespace Go.Proofs.YtgldjpldldknoaaGreatDoor
open Go.RowKit
def joinN (da db : Int) : Nat := 3 * (max (da - db) (db - da) - 1).toNat + 1
def joinD (da db d : Int) : Prop := max da db ≤ d ∧ d ≤ max da db + 1
set_option maxRecDepth 100000 in
set_option maxHeartbeats 2000000 in
theorem avl_join : ∀ (n : Nat) (B : Nat) (w : World) (p mb : Nat) (most : Int) (L : List Ent) (a b : Int) (s t : List Int) (da db : Int), (da + db).toNat < n → Room B w p mb most L (joinN da db) → Bal L a s da → Bal L b t db → (s.length : Int) + t.length ≤ 1152921504606846976 →
    Calls Tryz.prog 61 #[.pointer (some ⟨p, 0, none⟩), .int .i64 a, .int .i64 b] w (APost B w p mb most L (s ++ t) (fun d k => joinD da db d ∧ k ≤ joinN da db)) := by
 intro n
 induction n with
 | zero => intro B w p mb most L a b s t da db h; omega
 | succ n ih =>
 intro B w p mb most L a b s t da db hn hR ha hb hl
 have CDA := Lib.hid (fun W (hW : Fr0 w W) => sto_Depth (hR.st.kept0 hW) a ha.known)
 rw [ha.depth] at CDA
 have CDB := Lib.hid (fun W (hW : Fr0 w W) => sto_Depth (hR.st.kept0 hW) b hb.known)
 rw [hb.depth] at CDB
 obtain ⟨a0, a1⟩ := hR.depth ha
 obtain ⟨b0, b1⟩ := hR.depth hb
 have HR := Lib.hid hR
 have HA := Lib.hid ha
 have HB := Lib.hid hb
 have IH := Lib.hid ih
 clear hR ha hb ih
 by_cases hA : db + 1 < da
 · obtain ⟨l, r, tl, tr, dl, dr, hru, hbl, hbr, hst, hdd, hd1, hd2⟩ := bal_parts HR.out.dok HA.out (by omega)
   have CP := Lib.hid (fun W (hW : Fr0 w W) => avl_parts (HR.out.st.kept0 hW) a l r dl dr HA.out.known HA.out.ne hru hbl.known hbr.known hbl.depth hbr.depth)
   have hlen : (s.length : Int) = tl.length + tr.length := by rw [hst, List.length_append]; omega
   have q1 := HR.out.depth hbr
   have hN : joinN dr db + 3 ≤ joinN da db := by unfold joinN; omega
   have CJ := Lib.hid (fun W (hW : Fr0 w W) => IH.out B W p mb most L r b tr t dr db (by omega) ((HR.out.kept0 hW).less (by omega)) hbr HB.out (by omega))
   have HST := Lib.hid hst
   have HBL := Lib.hid hbl
   have HDD := Lib.hid hdd
   have HL := Lib.hid hlen
   have HN := Lib.hid hN
   have d1 : decide (db + 1 < da) = true := decide_eq_true hA
   clear hru hbl hbr hst hdd hlen IH hN
   go_enter Tryz.func61, Tryz.ntmps61
   go_wp2_with fail
   refine (CDA.out _ (Fr0.refl w)).mono ?_
   rintro e w1 ⟨rfl, f1⟩
   go_wp2_with fail
   refine (CDB.out _ f1).mono ?_
   rintro e w2 ⟨rfl, f2⟩
   have F2 := f1.trans f2
   clear f1 f2
   go_wp2_with fail
   refine (CP.out _ F2).mono ?_
   rintro e w3 ⟨rfl, f3⟩
   have F3 := F2.trans f3
   clear f3
   go_wp2_with fail
   refine (CJ.out _ F3).mono ?_
   rintro e w4 ⟨L1, x, dx, kx, rfl, hS1, hK1, g, bb, ⟨hx1, hx2⟩, hkx⟩
   have C2 := Lib.hid (avl_level ((HR.out.kept0 F3).next hS1 hK1 g (by have := HN.out; omega)) (g.bal HR.out.dok HBL.out) bb (by have := HDD.out; omega) (by have := HDD.out; omega) (by have := HL.out; rw [List.length_append]; omega))
   have HK := Lib.hid hK1
   have HG := Lib.hid g
   clear hS1 hK1 g bb CJ
   go_wp2_with fail
   refine C2.out.mono ?_
   rintro e w5 hx
   obtain ⟨id, rfl⟩ := hx.ret
   have HX : Hid (APost B w p mb most L (s ++ t) (fun d k => joinD da db d ∧ k ≤ joinN da db) (.returned (.tuple #[.int .i64 id, .nilIface])) w5) := (APost.before F3 (APost.next (E := fun d k => levD dl dx d ∧ k ≤ joinN dr db + 3) HK.out HG.out hx (fun d k h => ⟨h.1, by omega⟩))).mono (by rw [HST.out]; simp) (fun d k hd => by have := HDD.out; have := HN.out; have := hd.1; unfold levD at this; refine ⟨⟨by omega, by omega⟩, by omega⟩)
   clear hx C2
   go_wp2_with fail
   go_ret2
   exact HX.out
 · have d0 : decide (db + 1 < da) = false := decide_eq_false hA
   by_cases hA' : da + 1 < db
   · obtain ⟨l, r, tl, tr, dl, dr, hru, hbl, hbr, hst, hdd, hd1, hd2⟩ := bal_parts HR.out.dok HB.out (by omega)
     have CP := Lib.hid (fun W (hW : Fr0 w W) => avl_parts (HR.out.st.kept0 hW) b l r dl dr HB.out.known HB.out.ne hru hbl.known hbr.known hbl.depth hbr.depth)
     have hlen : (t.length : Int) = tl.length + tr.length := by rw [hst, List.length_append]; omega
     have q1 := HR.out.depth hbl
     have hN : joinN da dl + 3 ≤ joinN da db := by unfold joinN; omega
     have CJ := Lib.hid (fun W (hW : Fr0 w W) => IH.out B W p mb most L a l s tl da dl (by omega) ((HR.out.kept0 hW).less (by omega)) HA.out hbl (by omega))
     have HST := Lib.hid hst
     have HBR := Lib.hid hbr
     have HDD := Lib.hid hdd
     have HL := Lib.hid hlen
     have HN := Lib.hid hN
     have d1 : decide (da + 1 < db) = true := decide_eq_true hA'
     clear hru hbl hbr hst hdd hlen IH hN
     go_enter Tryz.func61, Tryz.ntmps61
     go_wp2_with fail
     refine (CDA.out _ (Fr0.refl w)).mono ?_
     rintro e w1 ⟨rfl, f1⟩
     go_wp2_with fail
     refine (CDB.out _ f1).mono ?_
     rintro e w2 ⟨rfl, f2⟩
     have F2 := f1.trans f2
     clear f1 f2
     go_wp2_with fail
     refine (CP.out _ F2).mono ?_
     rintro e w3 ⟨rfl, f3⟩
     have F3 := F2.trans f3
     clear f3
     go_wp2_with fail
     refine (CJ.out _ F3).mono ?_
     rintro e w4 ⟨L1, x, dx, kx, rfl, hS1, hK1, g, bb, ⟨hx1, hx2⟩, hkx⟩
     have C2 := Lib.hid (avl_level ((HR.out.kept0 F3).next hS1 hK1 g (by have := HN.out; omega)) bb (g.bal HR.out.dok HBR.out) (by have := HDD.out; omega) (by have := HDD.out; omega) (by have := HL.out; rw [List.length_append]; omega))
     have HK := Lib.hid hK1
     have HG := Lib.hid g
     clear hS1 hK1 g bb CJ
     go_wp2_with fail
     refine C2.out.mono ?_
     rintro e w5 hx
     obtain ⟨id, rfl⟩ := hx.ret
     have HX : Hid (APost B w p mb most L (s ++ t) (fun d k => joinD da db d ∧ k ≤ joinN da db) (.returned (.tuple #[.int .i64 id, .nilIface])) w5) := (APost.before F3 (APost.next (E := fun d k => levD dx dr d ∧ k ≤ joinN da dl + 3) HK.out HG.out hx (fun d k h => ⟨h.1, by omega⟩))).mono (by rw [HST.out]; simp) (fun d k hd => by have := HDD.out; have := HN.out; have := hd.1; unfold levD at this; refine ⟨⟨by omega, by omega⟩, by omega⟩)
     clear hx C2
     go_wp2_with fail
     go_ret2
     exact HX.out
   · have d1 : decide (da + 1 < db) = false := decide_eq_false hA'
     have CT := Lib.hid (fun W (hW : Fr0 w W) => avl_pair ((HR.out.kept0 hW).less (by unfold joinN; omega)) HA.out HB.out (by omega) (by omega) hl)
     clear IH
     go_enter Tryz.func61, Tryz.ntmps61
     go_wp2_with fail
     refine (CDA.out _ (Fr0.refl w)).mono ?_
     rintro e w1 ⟨rfl, f1⟩
     go_wp2_with fail
     refine (CDB.out _ f1).mono ?_
     rintro e w2 ⟨rfl, f2⟩
     have F2 := f1.trans f2
     clear f1 f2
     go_wp2_with fail
     refine (CT.out _ F2).mono ?_
     rintro e w5 hx
     obtain ⟨id, rfl⟩ := hx.ret
     have HX : Hid (APost B w p mb most L (s ++ t) (fun d k => joinD da db d ∧ k ≤ joinN da db) (.returned (.tuple #[.int .i64 id, .nilIface])) w5) := (hx.before F2).mono rfl (fun d k hd => by refine ⟨⟨by omega, by omega⟩, by unfold joinN; omega⟩)
     clear hx
     go_wp2_with fail
     go_ret2
     exact HX.out
structure BalZ (L : List Ent) (id : Int) (t : List Int) (d : Int) : Prop where
 known : isKnown L id
 text : txt L id = t
 even : (entAt L id).even = true
 depth : (entAt L id).depth = d
theorem BalZ.bal {L : List Ent} {id : Int} {t : List Int} {d : Int} (h : BalZ L id t d) (h0 : id ≠ 0) : Bal L id t d := ⟨h.known, h0, h.text, h.even, h.depth⟩
theorem Bal.z {L : List Ent} {id : Int} {t : List Int} {d : Int} (h : Bal L id t d) : BalZ L id t d := ⟨h.known, h.text, h.even, h.depth⟩
theorem BalZ.zero (L : List Ent) : BalZ L 0 [] 0 := ⟨⟨by omega, by omega⟩, rfl, rfl, rfl⟩
theorem BalZ.of0 {L : List Ent} {id : Int} {t : List Int} {d : Int} (h : BalZ L id t d) (h0 : id = 0) : t = [] ∧ d = 0 := by
 subst h0
 exact ⟨h.text.symm, h.depth.symm⟩
theorem BalZ.more {L : List Ent} (h : DOk L) {id : Int} {t : List Int} {d : Int} (hb : BalZ L id t d) (M : List Ent) : BalZ (L ++ M) id t d :=
 ⟨isKnown_append M hb.known, by rw [txt_append h M hb.known]; exact hb.text, by rw [entAt_append L M id hb.known]; exact hb.even, by rw [entAt_append L M id hb.known]; exact hb.depth⟩
theorem Grows.balz {L L' : List Ent} {n : Nat} (h : Grows L L' n) (hd : DOk L) {id : Int} {t : List Int} {d : Int} (hb : BalZ L id t d) : BalZ L' id t d := by
 obtain ⟨M, e⟩ := h.ext
 rw [e]; exact hb.more hd M
theorem BalZ.len {L : List Ent} {id : Int} {t : List Int} {d : Int} (h : BalZ L id t d) (hd : DOk L) (hs : SOk L) : (t.length : Int) = (entAt L id).wt.len := by
 have := bal_len hd hs id.toNat id (Nat.le_refl _) h.known h.even
 rw [h.text] at this; exact this
theorem BalZ.ne {L : List Ent} {id : Int} {t : List Int} {d : Int} (h : BalZ L id t d) (ht : t ≠ []) : id ≠ 0 := fun e => ht (h.of0 e).1
theorem Bal.pos {L : List Ent} {id : Int} {t : List Int} {d : Int} (h : Bal L id t d) (hd : DOk L) (hs : SOk L) : 1 ≤ t.length := by
 have := h.z.len hd hs
 have := (hs.at id h.known).2.2.2 h.ne
 omega
def ZPost (B : Nat) (w : World) (p mb : Nat) (most : Int) (L : List Ent) (t : List Int) (D : Int → Nat → Prop) (e : Ending) (w' : World) : Prop :=
 ∃ L' id d k, e = .returned (.tuple #[.int .i64 id, .nilIface]) ∧ Sto B w' p mb most L' ∧ Kp B mb w w' ∧ Grows L L' k ∧ BalZ L' id t d ∧ D d k
theorem APost.z {B : Nat} {w : World} {p mb : Nat} {most : Int} {L : List Ent} {t : List Int} {D : Int → Nat → Prop} {e : Ending} {w' : World} (h : APost B w p mb most L t D e w') : ZPost B w p mb most L t D e w' := by
 obtain ⟨L', id, d, k, h1, h2, h3, h4, h5, h6⟩ := h
 exact ⟨L', id, d, k, h1, h2, h3, h4, h5.z, h6⟩
theorem ZPost.ret {B : Nat} {w : World} {p mb : Nat} {most : Int} {L : List Ent} {t : List Int} {D : Int → Nat → Prop} {e : Ending} {w' : World} (h : ZPost B w p mb most L t D e w') : ∃ id, e = .returned (.tuple #[.int .i64 id, .nilIface]) := by
 obtain ⟨L', id, d, k, h1, _⟩ := h
 exact ⟨id, h1⟩
theorem ZPost.mono {B : Nat} {w : World} {p mb : Nat} {most : Int} {L : List Ent} {t u : List Int} {D E : Int → Nat → Prop} {e : Ending} {w' : World} (h : ZPost B w p mb most L t D e w') (ht : t = u) (hD : ∀ d k, D d k → E d k) : ZPost B w p mb most L u E e w' := by
 obtain ⟨L', id, d, k, h1, h2, h3, h4, h5, h6⟩ := h
 subst ht
 exact ⟨L', id, d, k, h1, h2, h3, h4, h5, hD d k h6⟩
theorem ZPost.before {B : Nat} {w w1 : World} {p mb : Nat} {most : Int} {L : List Ent} {t : List Int} {D : Int → Nat → Prop} {e : Ending} {w' : World} (h0 : Fr0 w w1) (h : ZPost B w1 p mb most L t D e w') : ZPost B w p mb most L t D e w' := by
 obtain ⟨L', id, d, k, h1, h2, h3, h4, h5, h6⟩ := h
 exact ⟨L', id, d, k, h1, h2, (Kp.of0 h0).trans h3, h4, h5, h6⟩
theorem ZPost.next {B : Nat} {w w1 : World} {p mb : Nat} {most : Int} {L L1 : List Ent} {k1 : Nat} {t : List Int} {D E : Int → Nat → Prop} {e : Ending} {w' : World} (hK : Kp B mb w w1) (hg : Grows L L1 k1) (h : ZPost B w1 p mb most L1 t D e w') (hD : ∀ d k, D d k → E d (k1 + k)) : ZPost B w p mb most L t E e w' := by
 obtain ⟨L', id, d, k, h1, h2, h3, h4, h5, h6⟩ := h
 exact ⟨L', id, d, k1 + k, h1, h2, hK.trans h3, hg.trans h4 (Nat.le_refl _), h5, hD d k h6⟩
theorem ZPost.same {B : Nat} {w w' : World} {p mb : Nat} {most : Int} {L : List Ent} {n : Nat} (hR : Room B w p mb most L n) (hf : Fr0 w w') {id : Int} {t : List Int} {d : Int} (hb : BalZ L id t d) {D : Int → Nat → Prop} (hD : D d 0) : ZPost B w p mb most L t D (.returned (.tuple #[.int .i64 id, .nilIface])) w' :=
 ⟨L, id, d, 0, rfl, hR.st.kept0 hf, Kp.of0 hf, Grows.refl hR.sok hR.dok, hb, hD⟩
set_option maxRecDepth 100000 in
set_option maxHeartbeats 2000000 in
theorem avl_Join {B : Nat} {w : World} {p mb : Nat} {most : Int} {L : List Ent} {a b : Int} {s t : List Int} {da db : Int} (hR : Room B w p mb most L (joinN da db)) (ha : BalZ L a s da) (hb : BalZ L b t db) (hl : (s.length : Int) + t.length ≤ 1152921504606846976) :
    Calls Tryz.prog 45 #[.pointer (some ⟨p, 0, none⟩), .int .i64 a, .int .i64 b] w (ZPost B w p mb most L (s ++ t) (fun d k => joinD da db d ∧ k ≤ joinN da db)) := by
 have CWA := Lib.hid (fun W (hW : Fr0 w W) => sto_Weight (hR.st.kept0 hW) a ha.known)
 have CWB := Lib.hid (fun W (hW : Fr0 w W) => sto_Weight (hR.st.kept0 hW) b hb.known)
 have CEA := Lib.hid (fun W (hW : Fr0 w W) => sto_Even (hR.st.kept0 hW) a ha.known)
 have CEB := Lib.hid (fun W (hW : Fr0 w W) => sto_Even (hR.st.kept0 hW) b hb.known)
 rw [ha.even] at CEA
 rw [hb.even] at CEB
 have la := ha.len hR.dok hR.sok
 have lb := hb.len hR.dok hR.sok
 have a0 := hR.sok.at a ha.known
 have b0 := hR.sok.at b hb.known
 rw [ha.depth] at a0
 rw [hb.depth] at b0
 have da0 := a0.2.1
 have db0 := b0.2.1
 have q1 : 0 ≤ (entAt L a).wt.len := by omega
 have q2 : 0 ≤ (entAt L b).wt.len := by omega
 have q3 : (entAt L a).wt.len + (entAt L b).wt.len ≤ 1152921504606846976 := by omega
 generalize (entAt L a).wt = x at *
 generalize (entAt L b).wt = y at *
 clear la lb a0 b0
 by_cases h0 : a = 0
 · obtain ⟨rfl, rfl⟩ := ha.of0 h0
   subst h0
   have HX := Lib.hid (fun W (hW : Fr0 w W) => ZPost.same (D := fun d k => joinD 0 db d ∧ k ≤ joinN 0 db) hR hW hb ⟨⟨by omega, by omega⟩, by omega⟩)
   clear hR ha hb
   go_enter Tryz.func45, Tryz.ntmps45
   go_wp2_with fail
   refine (CWA.out _ (Fr0.refl w)).mono ?_
   rintro e w1 ⟨rfl, f1⟩
   go_wp2_with fail
   refine (CWB.out _ (f1.alloc _)).mono ?_
   rintro e w2 ⟨rfl, f2⟩
   have F2 := (f1.alloc _).trans f2
   clear f1
   go_wp2_with fail
   refine (CEA.out _ (F2.alloc _)).mono ?_
   rintro e w3 ⟨rfl, f3⟩
   have F3 := (F2.alloc _).trans f3
   go_wp2_with fail
   refine (CEB.out _ F3).mono ?_
   rintro e w4 ⟨rfl, f4⟩
   have F4 := F3.trans f4
   have hxa := f4.kept (f3.kept (((Fr0.refl w2).alloc _).kept (f2.kept (b := w1.heap.size) (alloc_at w1 _ _ rfl))))
   have hxb := f4.kept (f3.kept (b := w2.heap.size) (alloc_at w2 _ _ rfl))
   have ca : w4.cell? ⟨w1.heap.size, 0, none⟩ = some (.int .i64 x.len) := by rw [cell_of_block hxa]; rfl
   have cb : w4.cell? ⟨w2.heap.size, 0, none⟩ = some (.int .i64 y.len) := by rw [cell_of_block hxb]; rfl
   clear hxa hxb
   go_wp2_with fail
   refine (len_Add_ok _ _ _ q1 q2 q3).mono ?_
   rintro e w' ⟨rfl, rfl⟩
   have HX' := Lib.hid (HX.out _ F4)
   clear HX
   go_wp2_with fail
   go_ret2
   exact HX'.out
 · have n1 : (a == 0) = false := by simpa using h0
   by_cases h1 : b = 0
   · obtain ⟨rfl, rfl⟩ := hb.of0 h1
     subst h1
     have HX := Lib.hid (fun W (hW : Fr0 w W) => ZPost.same (D := fun d k => joinD da 0 d ∧ k ≤ joinN da 0) hR hW ha ⟨⟨by omega, by omega⟩, by omega⟩)
     rw [List.append_nil]
     clear hR ha hb
     go_enter Tryz.func45, Tryz.ntmps45
     go_wp2_with fail
     refine (CWA.out _ (Fr0.refl w)).mono ?_
     rintro e w1 ⟨rfl, f1⟩
     go_wp2_with fail
     refine (CWB.out _ (f1.alloc _)).mono ?_
     rintro e w2 ⟨rfl, f2⟩
     have F2 := (f1.alloc _).trans f2
     clear f1
     go_wp2_with fail
     refine (CEA.out _ (F2.alloc _)).mono ?_
     rintro e w3 ⟨rfl, f3⟩
     have F3 := (F2.alloc _).trans f3
     go_wp2_with fail
     refine (CEB.out _ F3).mono ?_
     rintro e w4 ⟨rfl, f4⟩
     have F4 := F3.trans f4
     have hxa := f4.kept (f3.kept (((Fr0.refl w2).alloc _).kept (f2.kept (b := w1.heap.size) (alloc_at w1 _ _ rfl))))
     have hxb := f4.kept (f3.kept (b := w2.heap.size) (alloc_at w2 _ _ rfl))
     have ca : w4.cell? ⟨w1.heap.size, 0, none⟩ = some (.int .i64 x.len) := by rw [cell_of_block hxa]; rfl
     have cb : w4.cell? ⟨w2.heap.size, 0, none⟩ = some (.int .i64 y.len) := by rw [cell_of_block hxb]; rfl
     clear hxa hxb
     go_wp2_with fail
     refine (len_Add_ok _ _ _ q1 q2 q3).mono ?_
     rintro e w' ⟨rfl, rfl⟩
     have HX' := Lib.hid (HX.out _ F4)
     clear HX
     go_wp2_with fail
     go_ret2
     exact HX'.out
   · have n2 : (b == 0) = false := by simpa using h1
     have CJ := Lib.hid (fun W (hW : Fr0 w W) => avl_join ((da + db).toNat + 1) B W p mb most L a b s t da db (by omega) (hR.kept0 hW) (ha.bal h0) (hb.bal h1) hl)
     clear hR ha hb h0 h1
     go_enter Tryz.func45, Tryz.ntmps45
     go_wp2_with fail
     refine (CWA.out _ (Fr0.refl w)).mono ?_
     rintro e w1 ⟨rfl, f1⟩
     go_wp2_with fail
     refine (CWB.out _ (f1.alloc _)).mono ?_
     rintro e w2 ⟨rfl, f2⟩
     have F2 := (f1.alloc _).trans f2
     clear f1
     go_wp2_with fail
     refine (CEA.out _ (F2.alloc _)).mono ?_
     rintro e w3 ⟨rfl, f3⟩
     have F3 := (F2.alloc _).trans f3
     go_wp2_with fail
     refine (CEB.out _ F3).mono ?_
     rintro e w4 ⟨rfl, f4⟩
     have F4 := F3.trans f4
     have hxa := f4.kept (f3.kept (((Fr0.refl w2).alloc _).kept (f2.kept (b := w1.heap.size) (alloc_at w1 _ _ rfl))))
     have hxb := f4.kept (f3.kept (b := w2.heap.size) (alloc_at w2 _ _ rfl))
     have ca : w4.cell? ⟨w1.heap.size, 0, none⟩ = some (.int .i64 x.len) := by rw [cell_of_block hxa]; rfl
     have cb : w4.cell? ⟨w2.heap.size, 0, none⟩ = some (.int .i64 y.len) := by rw [cell_of_block hxb]; rfl
     clear hxa hxb
     go_wp2_with fail
     refine (len_Add_ok _ _ _ q1 q2 q3).mono ?_
     rintro e w' ⟨rfl, rfl⟩
     have CJ' := Lib.hid (CJ.out _ F4)
     clear CJ
     go_wp2_with fail
     refine CJ'.out.mono ?_
     rintro e w5 hx
     obtain ⟨id, rfl⟩ := hx.ret
     have HX := Lib.hid (ZPost.before F4 hx.z)
     clear hx CJ'
     go_wp2_with fail
     go_ret2
     exact HX.out
end Go.Proofs.YtgldjpldldknoaaGreatDoor
/- The walks of split.size, check, front and rest. -/
set_option linter.unusedSimpArgs false
set_option linter.unusedVariables false
namespace Go.Proofs.YtgldjpldldknoaaGreatDoor
open Go.RowKit
set_option maxRecDepth 100000 in
set_option maxHeartbeats 400000 in
theorem split_size {B : Nat} {w : World} {p mb : Nat} {most : Int} {L : List Ent} (hS : Sto B w p mb most L) (id : Int) (h : isKnown L id) (n : Int) (hn : (entAt L id).wt.len = n) :
    Calls Tryz.prog 96 #[.pointer (some ⟨p, 0, none⟩), .int .i64 id] w fun e w' => e = .returned (.tuple #[.int .i64 n, .nilIface]) ∧ Fr0 w w' := by
 subst hn
 have c1 := sto_Weight hS id h
 have C1 := Lib.hid c1
 clear c1 hS h
 generalize entAt L id = x at *
 go_enter Tryz.func96, Tryz.ntmps96
 go_wp2_with fail
 refine C1.out.mono ?_
 rintro e w1 ⟨rfl, hf1⟩
 go_wp2_with fail
 go_ret2
 exact ⟨rfl, hf1.alloc _⟩
theorem sto_Balanced {B : Nat} {w : World} {p mb : Nat} {most : Int} {L : List Ent} (h : Sto B w p mb most L) (id : Int) (hk : isKnown L id) (b : Bool) (hb : (entAt L id).even = b) :
    Calls Tryz.prog 23 #[.pointer (some ⟨p, 0, none⟩), .int .i64 id] w fun e w' => e = .returned (.tuple #[.bool b, .nilIface]) ∧ Fr0 w w' := by
 obtain ⟨sv, hS, _⟩ := h
 subst hb
 exact avl_Balanced hS id hk
set_option maxRecDepth 100000 in
set_option maxHeartbeats 400000 in
theorem split_check {B : Nat} {w : World} {p mb : Nat} {most : Int} {L : List Ent} (hS : Sto B w p mb most L) (id : Int) (h : isKnown L id) (he : (entAt L id).even = true) (n : Int) (hn : (entAt L id).wt.len = n) :
    Calls Tryz.prog 76 #[.pointer (some ⟨p, 0, none⟩), .int .i64 id] w fun e w' => e = .returned (.tuple #[.int .i64 n, .nilIface]) ∧ Fr0 w w' := by
 have C1 := Lib.hid (sto_Balanced hS id h true he)
 have C2 := Lib.hid (fun W (hW : Fr0 w W) => split_size (hS.kept0 hW) id h n hn)
 clear hS h he hn
 go_enter Tryz.func76, Tryz.ntmps76
 go_wp2_with fail
 refine C1.out.mono ?_
 rintro e w1 ⟨rfl, hf1⟩
 go_wp2_with fail
 refine (C2.out _ hf1).mono ?_
 rintro e w2 ⟨rfl, hf2⟩
 go_wp2_with fail
 go_ret2
 exact ⟨rfl, hf1.trans hf2⟩
theorem bal_one {L : List Ent} (hd : DOk L) (hs : SOk L) {id : Int} {t : List Int} {d : Int} (h : Bal L id t d) (h0 : d = 0) : t.length = 1 := by
 subst h0
 have hk := h.known
 have hbk := hk.2
 rcases hd.at id hk h.ne with ⟨k1, k2⟩ | ⟨k1, k2, k3⟩ | ⟨k1, k2, k3⟩
 · rw [← h.text, txt_letter hk h.ne k1]; rfl
 · have hdep := h.depth
   rw [k3] at hdep
   have hdep' : 1 + max (entAt L (entAt L id).rule.left).depth (entAt L (entAt L id).rule.right).depth = 0 := hdep
   have := (hs.at (entAt L id).rule.left ⟨by omega, by omega⟩).2.1
   omega
 · have he := h.even
   rw [k3] at he
   cases he
theorem Bal.le {L : List Ent} {id : Int} {t : List Int} {d : Int} (h : Bal L id t d) (hd : DOk L) (hs : SOk L) : (t.length : Int) ≤ 1152921504606846976 := by
 have := h.z.len hd hs
 have := (hs.at id h.known).1.len1
 omega
set_option maxRecDepth 100000 in
set_option maxHeartbeats 400000 in
theorem spl_front_zero (p : Nat) (id : Int) (w : World) :
    Calls Tryz.prog 98 #[.pointer (some ⟨p, 0, none⟩), .int .i64 id, .int .i64 0] w fun e w' => e = .returned (.tuple #[.int .i64 0, .nilIface]) ∧ w = w' := by
 go_enter Tryz.func98, Tryz.ntmps98
 go_wp2_with fail
 go_ret2
 exact ⟨rfl, rfl⟩
set_option maxRecDepth 100000 in
set_option maxHeartbeats 400000 in
theorem spl_rest_zero (p : Nat) (id : Int) (w : World) :
    Calls Tryz.prog 97 #[.pointer (some ⟨p, 0, none⟩), .int .i64 id, .int .i64 0] w fun e w' => e = .returned (.tuple #[.int .i64 id, .nilIface]) ∧ w = w' := by
 go_enter Tryz.func97, Tryz.ntmps97
 go_wp2_with fail
 go_ret2
 exact ⟨rfl, rfl⟩
def partD (d e : Int) (k : Nat) : Prop := 0 ≤ e ∧ e ≤ d ∧ (k : Int) ≤ 3 * e + d
theorem take_left (a b : List Int) (m : Int) (h : m ≤ a.length) : (a ++ b).take m.toNat = a.take m.toNat := List.take_append_of_le_length (by omega)
theorem take_right (a b : List Int) (m : Int) (h : (a.length : Int) ≤ m) : (a ++ b).take m.toNat = a ++ b.take (m - a.length).toNat := by
 rw [List.take_append, List.take_of_length_le (by omega)]
 congr 2
 omega
theorem drop_left (a b : List Int) (m : Int) (h : m ≤ a.length) : (a ++ b).drop m.toNat = a.drop m.toNat ++ b := List.drop_append_of_le_length (by omega)
theorem drop_right (a b : List Int) (m : Int) (h : (a.length : Int) ≤ m) : (a ++ b).drop m.toNat = b.drop (m - a.length).toNat := by
 rw [List.drop_append, List.drop_of_length_le (by omega), List.nil_append]
 congr 1
 omega
set_option maxRecDepth 100000 in
set_option maxHeartbeats 2000000 in
theorem spl_front : ∀ (n B : Nat) (w : World) (p mb : Nat) (most : Int) (L : List Ent) (id : Int) (t : List Int) (d m : Int), d.toNat < n → Room B w p mb most L (4 * d.toNat) → Bal L id t d → 0 ≤ m → m ≤ t.length →
    Calls Tryz.prog 98 #[.pointer (some ⟨p, 0, none⟩), .int .i64 id, .int .i64 m] w (ZPost B w p mb most L (t.take m.toNat) (partD d)) := by
 intro n
 induction n with
 | zero => intro B w p mb most L id t d m h; omega
 | succ n ih =>
 intro B w p mb most L id t d m hn hR hb hm0 hm1
 obtain ⟨d0, d1⟩ := hR.depth hb
 by_cases hz : m = 0
 · subst hz
   refine (spl_front_zero p id w).mono ?_
   rintro e w' ⟨rfl, rfl⟩
   exact ZPost.same hR (Fr0.refl w) (BalZ.zero L) ⟨by omega, by omega, by omega⟩
 · have hlen := hb.z.len hR.dok hR.sok
   have hle := hb.le hR.dok hR.sok
   have CS := Lib.hid (fun W (hW : Fr0 w W) => split_size (hR.st.kept0 hW) id hb.known t.length hlen.symm)
   by_cases hT : m = t.length
   · have HX := Lib.hid (fun W (hW : Fr0 w W) => ZPost.same (D := partD d) hR hW hb.z ⟨by omega, by omega, by omega⟩)
     rw [hT, Int.toNat_natCast, List.take_length]
     subst hT
     have hnz : ((t.length : Int) == 0) = false := by simpa using hz
     clear hR hb hlen ih hm0 hm1 hz
     generalize (t.length : Int) = T at *
     go_enter Tryz.func98, Tryz.ntmps98
     go_wp2_with fail
     refine (CS.out _ (Fr0.refl w)).mono ?_
     rintro e w1 ⟨rfl, f1⟩
     have HX' := Lib.hid (HX.out _ f1)
     clear HX
     go_wp2_with fail
     go_ret2
     exact HX'.out
   · have hd1 : 1 ≤ d := by
       by_cases h : d < 1
       · have := bal_one hR.dok hR.sok hb (by omega); omega
       · omega
     obtain ⟨l, r, tl, tr, dl, dr, hru, hbl, hbr, hst, hdd, hd2, hd3⟩ := bal_parts hR.dok hb hd1
     obtain ⟨dl0, _⟩ := hR.depth hbl
     obtain ⟨dr0, _⟩ := hR.depth hbr
     have CR := Lib.hid (fun W (hW : Fr0 w W) => sto_Rule (hR.st.kept0 hW) id hb.known hb.ne)
     rw [hru] at CR
     have CL := Lib.hid (fun W (hW : Fr0 w W) => split_size (hR.st.kept0 hW) l hbl.known tl.length (hbl.z.len hR.dok hR.sok).symm)
     have hsum : (t.length : Int) = tl.length + tr.length := by rw [hst, List.length_append]; omega
     have e1 : (m == 0) = false := by simpa using hz
     have e2 : (m == (t.length : Int)) = false := by simpa using hT
     by_cases hc : m ≤ tl.length
     · have CF := Lib.hid (fun W (hW : Fr0 w W) => ih B W p mb most L l tl dl m (by omega) ((hR.kept0 hW).less (by omega)) hbl hm0 hc)
       rw [hst, take_left _ _ _ hc]
       clear hR hb hlen ih hz hT hru hbl hbr hst
       generalize (t.length : Int) = T at *
       generalize (tl.length : Int) = M at *
       go_enter Tryz.func98, Tryz.ntmps98
       go_wp2_with fail
       refine (CS.out _ (Fr0.refl w)).mono ?_
       rintro e w1 ⟨rfl, f1⟩
       go_wp2_with fail
       refine (CR.out _ f1).mono ?_
       rintro e w2 ⟨rfl, f2⟩
       have F2 := f1.trans f2
       clear f1 f2
       go_wp2_with fail
       refine (CL.out _ (F2.alloc _)).mono ?_
       rintro e w3 ⟨rfl, f3⟩
       have hr3 := f3.kept (b := w2.heap.size) (alloc_at w2 _ _ rfl)
       have F3 := (F2.alloc _).trans f3
       obtain ⟨r1, r2, r3, r4, r5, lr⟩ := cells5 hr3
       clear hr3 f3
       go_wp2_with fail
       refine (CF.out _ F3).mono ?_
       rintro e w4 hx
       obtain ⟨x, rfl⟩ := hx.ret
       have HX := Lib.hid ((ZPost.before F3 hx).mono (E := partD d) rfl (fun e k h => ⟨h.1, by have := h.2.1; omega, by have := h.2.2; omega⟩))
       clear hx
       go_wp2_with fail
       go_ret2
       exact HX.out
     · have CF := Lib.hid (fun W (hW : Fr0 w W) => ih B W p mb most L r tr dr (m - tl.length) (by omega) ((hR.kept0 hW).less (by omega)) hbr (by omega) (by omega))
       rw [hst, take_right _ _ _ (by omega)]
       have HR := Lib.hid hR
       have HBL := Lib.hid hbl
       have hlt : (((tr.take (m - tl.length).toNat).length : Nat) : Int) ≤ tr.length := by rw [List.length_take]; omega
       have HLT := Lib.hid (show (tl.length : Int) + ((tr.take (m - tl.length).toNat).length : Nat) ≤ 1152921504606846976 by omega)
       generalize tr.take (m - tl.length).toNat = trm at *
       have hc' : (tl.length : Int) < m := by omega
       have hc2 : decide (m ≤ (tl.length : Int)) = false := decide_eq_false hc
       have b1 : (0 : Int) ≤ tl.length := by omega
       have b2 : (tl.length : Int) ≤ 1152921504606846976 := by omega
       clear hR hb hlen ih hz hT hru hbl hbr hst hlt
       generalize hML : (tl.length : Int) = M at *
       generalize (t.length : Int) = T at *
       have HML := Lib.hid hML
       clear hML
       go_enter Tryz.func98, Tryz.ntmps98
       go_wp2_with fail
       refine (CS.out _ (Fr0.refl w)).mono ?_
       rintro e w1 ⟨rfl, f1⟩
       go_wp2_with fail
       refine (CR.out _ f1).mono ?_
       rintro e w2 ⟨rfl, f2⟩
       have F2 := f1.trans f2
       clear f1 f2
       go_wp2_with fail
       refine (CL.out _ (F2.alloc _)).mono ?_
       rintro e w3 ⟨rfl, f3⟩
       have hr3 := f3.kept (b := w2.heap.size) (alloc_at w2 _ _ rfl)
       have F3 := (F2.alloc _).trans f3
       obtain ⟨r1, r2, r3, r4, r5, lr⟩ := cells5 hr3
       have HR3 := Lib.hid hr3
       clear hr3 f3
       go_wp2_with fail
       refine (CF.out _ F3).mono ?_
       rintro e w4 ⟨L1, x, dx, kx, rfl, hS1, hK1, g, bx, hx0, hx1, hx2⟩
       have hr4 := hK1.cells _ _ _ _ HR3.out (by decide) (by decide)
       have CJ := Lib.hid (avl_Join ((HR.out.kept0 F3).next hS1 hK1 g (by unfold joinN; omega)) (g.balz HR.out.dok HBL.out.z) bx (by have := HLT.out; have := HML.out; omega))
       have HK := Lib.hid ((Kp.of0 F3).trans hK1)
       have HG := Lib.hid g
       clear hS1 hK1 g bx r1 r2 r3 r4 r5 lr HR3 CF
       obtain ⟨r1, r2, r3, r4, r5, lr⟩ := cells5 hr4
       clear hr4
       go_wp2_with fail
       refine CJ.out.mono ?_
       rintro e w5 hx
       obtain ⟨y, rfl⟩ := hx.ret
       have HX := Lib.hid (ZPost.next (E := partD d) HK.out HG.out hx (fun e k h => by obtain ⟨⟨h1, h2⟩, h3⟩ := h; unfold joinN at h3; exact ⟨by omega, by omega, by omega⟩))
       clear hx CJ
       go_wp2_with fail
       go_ret2
       exact HX.out
set_option maxRecDepth 100000 in
set_option maxHeartbeats 2000000 in
theorem spl_rest : ∀ (n B : Nat) (w : World) (p mb : Nat) (most : Int) (L : List Ent) (id : Int) (t : List Int) (d m : Int), d.toNat < n → Room B w p mb most L (4 * d.toNat) → Bal L id t d → 0 ≤ m → m ≤ t.length →
    Calls Tryz.prog 97 #[.pointer (some ⟨p, 0, none⟩), .int .i64 id, .int .i64 m] w (ZPost B w p mb most L (t.drop m.toNat) (partD d)) := by
 intro n
 induction n with
 | zero => intro B w p mb most L id t d m h; omega
 | succ n ih =>
 intro B w p mb most L id t d m hn hR hb hm0 hm1
 obtain ⟨d0, d1⟩ := hR.depth hb
 by_cases hz : m = 0
 · subst hz
   refine (spl_rest_zero p id w).mono ?_
   rintro e w' ⟨rfl, rfl⟩
   exact ZPost.same hR (Fr0.refl w) hb.z ⟨by omega, by omega, by omega⟩
 · have hlen := hb.z.len hR.dok hR.sok
   have hle := hb.le hR.dok hR.sok
   have CS := Lib.hid (fun W (hW : Fr0 w W) => split_size (hR.st.kept0 hW) id hb.known t.length hlen.symm)
   by_cases hT : m = t.length
   · have HX := Lib.hid (fun W (hW : Fr0 w W) => ZPost.same (D := partD d) hR hW (BalZ.zero L) ⟨by omega, by omega, by omega⟩)
     rw [hT, Int.toNat_natCast, List.drop_length]
     subst hT
     have hnz : ((t.length : Int) == 0) = false := by simpa using hz
     clear hR hb hlen ih hm0 hm1 hz
     generalize (t.length : Int) = T at *
     go_enter Tryz.func97, Tryz.ntmps97
     go_wp2_with fail
     refine (CS.out _ (Fr0.refl w)).mono ?_
     rintro e w1 ⟨rfl, f1⟩
     have HX' := Lib.hid (HX.out _ f1)
     clear HX
     go_wp2_with fail
     go_ret2
     exact HX'.out
   · have hd1 : 1 ≤ d := by
       by_cases h : d < 1
       · have := bal_one hR.dok hR.sok hb (by omega); omega
       · omega
     obtain ⟨l, r, tl, tr, dl, dr, hru, hbl, hbr, hst, hdd, hd2, hd3⟩ := bal_parts hR.dok hb hd1
     obtain ⟨dl0, _⟩ := hR.depth hbl
     obtain ⟨dr0, _⟩ := hR.depth hbr
     have CR := Lib.hid (fun W (hW : Fr0 w W) => sto_Rule (hR.st.kept0 hW) id hb.known hb.ne)
     rw [hru] at CR
     have CL := Lib.hid (fun W (hW : Fr0 w W) => split_size (hR.st.kept0 hW) l hbl.known tl.length (hbl.z.len hR.dok hR.sok).symm)
     have hsum : (t.length : Int) = tl.length + tr.length := by rw [hst, List.length_append]; omega
     have e1 : (m == 0) = false := by simpa using hz
     have e2 : (m == (t.length : Int)) = false := by simpa using hT
     by_cases hc : tl.length ≤ m
     · have CF := Lib.hid (fun W (hW : Fr0 w W) => ih B W p mb most L r tr dr (m - tl.length) (by omega) ((hR.kept0 hW).less (by omega)) hbr (by omega) (by omega))
       rw [hst, drop_right _ _ _ hc]
       have b1 : (0 : Int) ≤ tl.length := by omega
       have b2 : (tl.length : Int) ≤ 1152921504606846976 := by omega
       generalize tr.drop (m - tl.length).toNat = trm at *
       clear hR hb hlen ih hz hT hru hbl hbr hst
       generalize (t.length : Int) = T at *
       generalize (tl.length : Int) = M at *
       go_enter Tryz.func97, Tryz.ntmps97
       go_wp2_with fail
       refine (CS.out _ (Fr0.refl w)).mono ?_
       rintro e w1 ⟨rfl, f1⟩
       go_wp2_with fail
       refine (CR.out _ f1).mono ?_
       rintro e w2 ⟨rfl, f2⟩
       have F2 := f1.trans f2
       clear f1 f2
       go_wp2_with fail
       refine (CL.out _ (F2.alloc _)).mono ?_
       rintro e w3 ⟨rfl, f3⟩
       have hr3 := f3.kept (b := w2.heap.size) (alloc_at w2 _ _ rfl)
       have F3 := (F2.alloc _).trans f3
       obtain ⟨r1, r2, r3, r4, r5, lr⟩ := cells5 hr3
       clear hr3 f3
       go_wp2_with fail
       refine (CF.out _ F3).mono ?_
       rintro e w4 hx
       obtain ⟨x, rfl⟩ := hx.ret
       have HX := Lib.hid ((ZPost.before F3 hx).mono (E := partD d) rfl (fun e k h => ⟨h.1, by have := h.2.1; omega, by have := h.2.2; omega⟩))
       clear hx
       go_wp2_with fail
       go_ret2
       exact HX.out
     · have CF := Lib.hid (fun W (hW : Fr0 w W) => ih B W p mb most L l tl dl m (by omega) ((hR.kept0 hW).less (by omega)) hbl hm0 (by omega))
       rw [hst, drop_left _ _ _ (by omega)]
       have HR := Lib.hid hR
       have HBR := Lib.hid hbr
       have hlt : (((tl.drop m.toNat).length : Nat) : Int) ≤ tl.length := by rw [List.length_drop]; omega
       have HLT := Lib.hid (show ((tl.drop m.toNat).length : Int) + tr.length ≤ 1152921504606846976 by omega)
       generalize tl.drop m.toNat = tlm at *
       have hc' : m < (tl.length : Int) := by omega
       have hc2 : decide ((tl.length : Int) ≤ m) = false := decide_eq_false hc
       have b1 : (0 : Int) ≤ tl.length := by omega
       have b2 : (tl.length : Int) ≤ 1152921504606846976 := by omega
       clear hR hb hlen ih hz hT hru hbl hbr hst hlt
       generalize (tl.length : Int) = M at *
       generalize (t.length : Int) = T at *
       go_enter Tryz.func97, Tryz.ntmps97
       go_wp2_with fail
       refine (CS.out _ (Fr0.refl w)).mono ?_
       rintro e w1 ⟨rfl, f1⟩
       go_wp2_with fail
       refine (CR.out _ f1).mono ?_
       rintro e w2 ⟨rfl, f2⟩
       have F2 := f1.trans f2
       clear f1 f2
       go_wp2_with fail
       refine (CL.out _ (F2.alloc _)).mono ?_
       rintro e w3 ⟨rfl, f3⟩
       have hr3 := f3.kept (b := w2.heap.size) (alloc_at w2 _ _ rfl)
       have F3 := (F2.alloc _).trans f3
       obtain ⟨r1, r2, r3, r4, r5, lr⟩ := cells5 hr3
       have HR3 := Lib.hid hr3
       clear hr3 f3
       go_wp2_with fail
       refine (CF.out _ F3).mono ?_
       rintro e w4 ⟨L1, x, dx, kx, rfl, hS1, hK1, g, bx, hx0, hx1, hx2⟩
       have hr4 := hK1.cells _ _ _ _ HR3.out (by decide) (by decide)
       have CJ := Lib.hid (avl_Join ((HR.out.kept0 F3).next hS1 hK1 g (by unfold joinN; omega)) bx (g.balz HR.out.dok HBR.out.z) HLT.out)
       have HK := Lib.hid ((Kp.of0 F3).trans hK1)
       have HG := Lib.hid g
       clear hS1 hK1 g bx r1 r2 r3 r4 r5 lr HR3 CF
       obtain ⟨r1, r2, r3, r4, r5, lr⟩ := cells5 hr4
       clear hr4
       go_wp2_with fail
       refine CJ.out.mono ?_
       rintro e w5 hx
       obtain ⟨y, rfl⟩ := hx.ret
       have HX := Lib.hid (ZPost.next (E := partD d) HK.out HG.out hx (fun e k h => by obtain ⟨⟨h1, h2⟩, h3⟩ := h; unfold joinN at h3; exact ⟨by omega, by omega, by omega⟩))
       clear hx CJ
       go_wp2_with fail
       go_ret2
       exact HX.out
end Go.Proofs.YtgldjpldldknoaaGreatDoor
/- The walks of split.section, Section and Split. -/
set_option linter.unusedSimpArgs false
set_option linter.unusedVariables false
namespace Go.Proofs.YtgldjpldldknoaaGreatDoor
open Go.RowKit
def cutL (t : List Int) (f n : Int) : List Int := (t.drop f.toNat).take n.toNat
theorem cut_left {a b : List Int} {f n : Int} (h0 : 0 ≤ f) (h1 : 0 ≤ n) (h : f + n ≤ a.length) : cutL (a ++ b) f n = cutL a f n := by
 unfold cutL
 rw [drop_left _ _ _ (by omega), take_left _ _ _ (by rw [List.length_drop]; omega)]
theorem cut_right {a b : List Int} {f n : Int} (h : (a.length : Int) ≤ f) : cutL (a ++ b) f n = cutL b (f - a.length) n := by
 unfold cutL
 rw [drop_right _ _ _ h]
theorem cut_mid {a b : List Int} {f n : Int} (h0 : 0 ≤ f) (h1 : f < a.length) (h : (a.length : Int) < f + n) : cutL (a ++ b) f n = a.drop f.toNat ++ b.take (f + n - a.length).toNat := by
 unfold cutL
 rw [drop_left _ _ _ (by omega), take_right _ _ _ (by rw [List.length_drop]; omega)]
 congr 3
 rw [List.length_drop]
 omega
theorem cut_all {t : List Int} {f n : Int} (h0 : f = 0) (h1 : n = t.length) : cutL t f n = t := by
 subst h0; subst h1
 unfold cutL
 rw [Int.toNat_natCast, show (0 : Int).toNat = 0 from rfl, List.drop_zero, List.take_length]
theorem cut_len {t : List Int} {f n : Int} (h0 : 0 ≤ f) (h1 : 0 ≤ n) (h2 : f + n ≤ t.length) : ((cutL t f n).length : Int) = n := by
 unfold cutL
 rw [List.length_take, List.length_drop]
 omega
theorem cut_zero (t : List Int) (f : Int) : cutL t f 0 = [] := rfl
def secD (d e : Int) (k : Nat) : Prop := 0 ≤ e ∧ e ≤ d ∧ (k : Int) ≤ 11 * d + 1
structure SecR (w wr : World) (L : List Ent) (t : List Int) (d f n : Int) (gk : Nat) (id' f' : Int) (t' : List Int) (d' : Int) : Prop where
 bal : Bal L id' t' d'
 f0 : 0 ≤ f'
 f1 : f' + n ≤ t'.length
 text : cutL t' f' n = cutL t f n
 d0 : d' ≤ d
 gk : d'.toNat < gk
 fr : Fr0 w wr
set_option maxRecDepth 100000 in
set_option maxHeartbeats 2000000 in
theorem spl_section {B : Nat} {w : World} {p mb : Nat} {most : Int} {L : List Ent} {id : Int} {t : List Int} {d f n : Int} (hR : Room B w p mb most L (11 * d.toNat + 1)) (hb : BalZ L id t d) (h0 : 0 ≤ f) (h1 : 0 ≤ n) (h2 : f + n ≤ t.length) :
    Calls Tryz.prog 77 #[.pointer (some ⟨p, 0, none⟩), .int .i64 id, .int .i64 f, .int .i64 n] w (ZPost B w p mb most L (cutL t f n) (secD d)) := by
 have hdd0 := (hR.sok.at id hb.known).2.1
 rw [hb.depth] at hdd0
 by_cases hz : n = 0
 · subst hz
   have HX := Lib.hid (ZPost.same (D := secD d) hR (Fr0.refl w) (BalZ.zero L) ⟨by omega, by omega, by omega⟩)
   rw [cut_zero]
   clear hR hb
   go_enter Tryz.func77, Tryz.ntmps77
   go_wp2_with fail
   go_ret2
   exact HX.out
 · have hne : id ≠ 0 := by
     intro e
     have := (hb.of0 e).1
     rw [this] at h2
     simp at h2
     omega
   have e1 : (n == 0) = false := by simpa using hz
   have hn1 : 1 ≤ n := by omega
   have HB := Lib.hid (hb.bal hne)
   have HR := Lib.hid hR
   clear hR hb hz
   go_enter Tryz.func77, Tryz.ntmps77
   go_wp2_with fail
   go_loopg [1, 2] (d.toNat + 1) (fun gk i m wr => ∃ (id' f' d' : Int) (t' : List Int), i = .int .i64 id' ∧ m = .int .i64 f' ∧ SecR w wr L t d f n gk id' f' t' d')
   case atStart => exact ⟨id, f, d, t, rfl, rfl, HB.out, h0, h2, rfl, Int.le_refl _, by omega, Fr0.refl w⟩
   case round =>
    obtain ⟨id', f', d', t', rfl, rfl, hr⟩ := hrel
    have hR' : Room B wr p mb most L (11 * d.toNat + 1) := HR.out.kept0 hr.fr
    have HFR := Lib.hid hr.fr
    have hbal := hr.bal
    obtain ⟨d0, d1⟩ := hR'.depth hbal
    have f0 := hr.f0
    have f1 := hr.f1
    have HT := Lib.hid hr.text
    have hdd := hr.d0
    have hg := hr.gk
    clear hr HB
    have hlen := hbal.z.len hR'.dok hR'.sok
    have hle := hbal.le hR'.dok hR'.sok
    have CS := Lib.hid (fun W (hW : Fr0 wr W) => split_size (hR'.st.kept0 hW) id' hbal.known t'.length hlen.symm)
    by_cases hT : n = t'.length
    · have HX := Lib.hid (fun W (hW : Fr0 w W) => ZPost.same (D := secD d) HR.out hW hbal.z ⟨by omega, by omega, by omega⟩)
      rw [← HT.out, cut_all (by omega) hT]
      subst hT
      clear hR' hbal hlen HT HR
      generalize (t'.length : Int) = T at *
      go_wp2_with fail
      refine (CS.out _ (Fr0.refl wr)).mono ?_
      rintro e w1 ⟨rfl, g1⟩
      have HX' := Lib.hid (HX.out _ (HFR.out.trans g1))
      clear HX
      go_wp2_with fail
      go_ret2
      exact HX'.out
    · have hd1 : 1 ≤ d' := by
        by_cases h : d' < 1
        · have := bal_one hR'.dok hR'.sok hbal (by omega); omega
        · omega
      obtain ⟨l, r, tl, tr, dl, dr, hru, hbl, hbr, hst, hdm, hd2, hd3⟩ := bal_parts hR'.dok hbal hd1
      obtain ⟨dl0, _⟩ := hR'.depth hbl
      obtain ⟨dr0, _⟩ := hR'.depth hbr
      have CR := Lib.hid (fun W (hW : Fr0 wr W) => sto_Rule (hR'.st.kept0 hW) id' hbal.known hbal.ne)
      rw [hru] at CR
      have CL := Lib.hid (fun W (hW : Fr0 wr W) => split_size (hR'.st.kept0 hW) l hbl.known tl.length (hbl.z.len hR'.dok hR'.sok).symm)
      have hsum : (t'.length : Int) = tl.length + tr.length := by rw [hst, List.length_append]; omega
      have e2 : (n == (t'.length : Int)) = false := by simpa using hT
      have b1 : (0 : Int) ≤ tl.length := by omega
      have b2 : (tl.length : Int) ≤ 1152921504606846976 := by omega
      have b3 : f' + n ≤ 1152921504606846976 := by omega
      by_cases hc : f' + n ≤ tl.length
      · have HN := Lib.hid (fun W (hW : Fr0 w W) => (⟨hbl, f0, hc, by rw [← HT.out, hst, cut_left f0 (by omega) hc], by omega, by omega, hW⟩ : SecR w W L t d f n (gk - 1) l f' tl dl))
        clear hR' hbal hlen HT HR hru hbl hbr hst hT
        generalize (t'.length : Int) = T at *
        generalize (tl.length : Int) = M at *
        go_wp2_with fail
        refine (CS.out _ (Fr0.refl wr)).mono ?_
        rintro e w1 ⟨rfl, g1⟩
        go_wp2_with fail
        refine (CR.out _ g1).mono ?_
        rintro e w2 ⟨rfl, g2⟩
        have G2 := g1.trans g2
        clear g1 g2
        go_wp2_with fail
        refine (CL.out _ (G2.alloc _)).mono ?_
        rintro e w3 ⟨rfl, g3⟩
        have hr3 := g3.kept (b := w2.heap.size) (alloc_at w2 _ _ rfl)
        have G3 := (G2.alloc _).trans g3
        obtain ⟨r1, r2, r3, r4, r5, lr⟩ := cells5 hr3
        have HN' := Lib.hid (HN.out _ (HFR.out.trans G3))
        clear hr3 g3 HN
        go_wp2_with fail
        go_roundg (gk - 1)
        case rel => exact ⟨l, f', dl, tl, rfl, rfl, HN'.out⟩
        case measure => omega
      · have hc2 : decide (f' + n ≤ (tl.length : Int)) = false := decide_eq_false hc
        have hc3 : (tl.length : Int) < f' + n := by omega
        by_cases hm : (tl.length : Int) ≤ f'
        · have HN := Lib.hid (fun W (hW : Fr0 w W) => (⟨hbr, by omega, by omega, by rw [← HT.out, hst, cut_right hm], by omega, by omega, hW⟩ : SecR w W L t d f n (gk - 1) r (f' - tl.length) tr dr))
          clear hR' hbal hlen HT HR hru hbl hbr hst hT
          generalize (t'.length : Int) = T at *
          generalize (tl.length : Int) = M at *
          go_wp2_with fail
          refine (CS.out _ (Fr0.refl wr)).mono ?_
          rintro e w1 ⟨rfl, g1⟩
          go_wp2_with fail
          refine (CR.out _ g1).mono ?_
          rintro e w2 ⟨rfl, g2⟩
          have G2 := g1.trans g2
          clear g1 g2
          go_wp2_with fail
          refine (CL.out _ (G2.alloc _)).mono ?_
          rintro e w3 ⟨rfl, g3⟩
          have hr3 := g3.kept (b := w2.heap.size) (alloc_at w2 _ _ rfl)
          have G3 := (G2.alloc _).trans g3
          obtain ⟨r1, r2, r3, r4, r5, lr⟩ := cells5 hr3
          have HN' := Lib.hid (HN.out _ (HFR.out.trans G3))
          clear hr3 g3 HN
          go_wp2_with fail
          go_roundg (gk - 1)
          case rel => exact ⟨r, f' - M, dr, tr, rfl, rfl, HN'.out⟩
          case measure => omega
        · have hm2 : decide ((tl.length : Int) ≤ f') = false := decide_eq_false hm
          have hm3 : f' < (tl.length : Int) := by omega
          have CF := Lib.hid (fun W (hW : Fr0 wr W) => spl_rest (dl.toNat + 1) B W p mb most L l tl dl f' (by omega) ((hR'.kept0 hW).less (by omega)) hbl f0 (by omega))
          have HTX := Lib.hid (show cutL t f n = tl.drop f'.toNat ++ tr.take (f' + n - tl.length).toNat by rw [← HT.out, hst, cut_mid f0 hm3 hc3])
          have HRW := Lib.hid hR'
          have HBR := Lib.hid hbr
          have l1 : (((tl.drop f'.toNat).length : Nat) : Int) ≤ tl.length := by rw [List.length_drop]; omega
          have l2 : (((tr.take (f' + n - tl.length).toNat).length : Nat) : Int) ≤ tr.length := by rw [List.length_take]; omega
          have HLL := Lib.hid (show ((tl.drop f'.toNat).length : Int) + (tr.take (f' + n - tl.length).toNat).length ≤ 1152921504606846976 by omega)
          have HTR := Lib.hid (show f' + n - tl.length ≤ (tr.length : Int) by omega)
          clear hR' hbal hlen HT HR hru hbl hbr hst hT l1 l2
          rw [HTX.out]
          clear HTX
          generalize (t'.length : Int) = T at *
          generalize (tl.length : Int) = M at *
          go_wp2_with fail
          refine (CS.out _ (Fr0.refl wr)).mono ?_
          rintro e w1 ⟨rfl, g1⟩
          go_wp2_with fail
          refine (CR.out _ g1).mono ?_
          rintro e w2 ⟨rfl, g2⟩
          have G2 := g1.trans g2
          clear g1 g2
          go_wp2_with fail
          refine (CL.out _ (G2.alloc _)).mono ?_
          rintro e w3 ⟨rfl, g3⟩
          have hr3 := g3.kept (b := w2.heap.size) (alloc_at w2 _ _ rfl)
          have G3 := (G2.alloc _).trans g3
          obtain ⟨r1, r2, r3, r4, r5, lr⟩ := cells5 hr3
          have HR3 := Lib.hid hr3
          clear hr3 g3
          go_wp2_with fail
          refine (CF.out _ G3).mono ?_
          rintro e w4 ⟨L1, x, dx, kx, rfl, hS1, hK1, g, bx, hx0, hx1, hx2⟩
          have hr4 := hK1.cells _ _ _ _ HR3.out (by decide) (by decide)
          have hRm1 := (HRW.out.kept0 G3).next (k := 11 * d.toNat + 1 - kx) hS1 hK1 g (by omega)
          have CG := Lib.hid (spl_front (dr.toNat + 1) B w4 p mb most L1 r tr dr (f' + n - M) (by omega) (hRm1.less (by omega)) (g.bal HRW.out.dok HBR.out) (by omega) HTR.out)
          have HRM := Lib.hid hRm1
          have HK := Lib.hid ((Kp.of0 (HFR.out.trans G3)).trans hK1)
          have HG := Lib.hid g
          have HBX := Lib.hid bx
          clear hS1 hK1 g bx r1 r2 r3 r4 r5 lr HR3 CF hRm1
          obtain ⟨r1, r2, r3, r4, r5, lr⟩ := cells5 hr4
          clear hr4
          go_wp2_with fail
          refine CG.out.mono ?_
          rintro e w5 ⟨L2, y, dy, ky, rfl, hS2, hK2, g2, by2, hy0, hy1, hy2⟩
          have CJ := Lib.hid (avl_Join (HRM.out.next hS2 hK2 g2 (by unfold joinN; omega)) (g2.balz HRM.out.dok HBX.out) by2 HLL.out)
          have HK2 := Lib.hid (HK.out.trans hK2)
          have HG2 := Lib.hid (HG.out.trans g2 (Nat.le_refl _))
          clear hS2 hK2 g2 by2 CG HRM r1 r2 r3 r4 r5 lr
          go_wp2_with fail
          refine CJ.out.mono ?_
          rintro e w6 hx
          obtain ⟨z, rfl⟩ := hx.ret
          have HX := Lib.hid (ZPost.next (E := secD d) HK2.out HG2.out hx (fun e k h => by obtain ⟨⟨h1, h2⟩, h3⟩ := h; unfold joinN at h3; exact ⟨by omega, by omega, by omega⟩))
          clear hx CJ
          go_wp2_with fail
          go_ret2
          exact HX.out
set_option maxRecDepth 100000 in
set_option maxHeartbeats 1000000 in
theorem spl_Section {B : Nat} {w : World} {p mb : Nat} {most : Int} {L : List Ent} {id : Int} {t : List Int} {d f n : Int} (hR : Room B w p mb most L (11 * d.toNat + 1)) (hb : BalZ L id t d) (h0 : 0 ≤ f) (h1 : 0 ≤ n) (h2 : f + n ≤ t.length) :
    Calls Tryz.prog 63 #[.pointer (some ⟨p, 0, none⟩), .int .i64 id, .int .i64 f, .int .i64 n] w (ZPost B w p mb most L (cutL t f n) (secD d)) := by
 have hlen := hb.len hR.dok hR.sok
 have hle := (hR.sok.at id hb.known).1.len1
 have C1 := Lib.hid (split_check hR.st id hb.known hb.even t.length hlen.symm)
 have C3 := Lib.hid (fun W (hW : Fr0 w W) => spl_section (hR.kept0 hW) hb h0 h1 h2)
 have hT : (t.length : Int) ≤ 1152921504606846976 := by omega
 clear hR hb hlen hle
 generalize cutL t f n = u at *
 generalize (t.length : Int) = T at *
 have C2 := Lib.hid (fun w => len_Range_ok f n T w h0 h1 h2 hT)
 go_enter Tryz.func63, Tryz.ntmps63
 go_wp2_with fail
 refine C1.out.mono ?_
 rintro e w1 ⟨rfl, f1⟩
 go_wp2_with fail
 refine (C2.out _).mono ?_
 rintro e w' ⟨rfl, rfl⟩
 go_wp2_with fail
 refine (C3.out _ f1).mono ?_
 rintro e w2 hx
 obtain ⟨z, rfl⟩ := hx.ret
 have HX := Lib.hid (ZPost.before f1 hx)
 clear hx
 go_wp2_with fail
 go_ret2
 exact HX.out
end Go.Proofs.YtgldjpldldknoaaGreatDoor
/- Slices of integers and IDs in memory: reading, and append. -/
set_option linter.unusedSimpArgs false
set_option linter.unusedVariables false
namespace Go.Proofs.YtgldjpldldknoaaGreatDoor
open Go.RowKit
def RT (ST T : TypeId) (size bytes : Nat) : Prop :=
 0 < size ∧ ∃ (i : TypeInfo) (z : Value), Tryz.prog.underlying ST = some (.slice T) ∧ Tryz.prog.info? T = some i ∧ i.zero = some z ∧ i.size = size ∧ i.bytes = bytes ∧ z.cells.size = size
theorem info_id : (Tryz.prog.info? 28).map (fun i => (i.zero, i.size, i.bytes)) = some (some (.int .i64 0), 1, 8) := by kernel_rfl
theorem info_int : (Tryz.prog.info? 3).map (fun i => (i.zero, i.size, i.bytes)) = some (some (.int .i64 0), 1, 8) := by kernel_rfl
theorem rt_id : RT 125 28 1 8 := by
 obtain ⟨i, h1, h2, h3, h4⟩ := info_parts info_id
 exact ⟨by omega, i, _, Tryz.underlying125, h1, h2, h3, h4, rfl⟩
theorem rt_int : RT 156 3 1 8 := by
 obtain ⟨i, h1, h2, h3, h4⟩ := info_parts info_int
 exact ⟨by omega, i, _, Tryz.underlying156, h1, h2, h3, h4, rfl⟩
theorem owns_form {w : World} {base : Nat} {e : TypeId} {size n : Nat} {v : Value} {xs : List Value} (h : w.ownsRow base e size v n xs) : ∃ a cap, v = .slice a n cap := by
 rcases h.2 with ⟨h1, h2⟩ | ⟨g, cap, cur, h1, _⟩
 · exact ⟨none, 0, by rw [h1, h2]⟩
 · exact ⟨_, cap, h1⟩
def SrcAt (w : World) (src : Value) (m : Nat) (news : List Value) : Prop := (src = .slice none 0 0 ∧ m = 0 ∧ news = []) ∨ ∃ ad c, src = .slice (some ad) m c ∧ ∀ j u, news[j]? = some u → w.cell? (ad.add j) = some u
theorem run_append_rt {ST T : TypeId} {size bytes : Nat} (hT : RT ST T size bytes) (w : World) (ty : TypeId) (B : Nat) (v : Value) (n : Nat) (xs : List Value) (hown : w.ownsRow B T size v n xs) (src : Value) (m : Nat) (news : List Value) (hsrc : SrcAt w src m news)
    (hl : news.length = m * size) (h1 : ∀ u ∈ news, u.oneCell' = true) (h63 : n + m ≤ maxLen) (hb : (n + m) * bytes ≤ 140737488355328) (hB : B ≤ w.heap.size) :
    ∃ v' w', (Builtin.append_ #[ST, ST] ty #[v, src]).run Tryz.prog w = .ok v' w' ∧ w'.ownsRow B T size v' (n + m) (xs ++ news) ∧ w.grownBy w' v.ownBlock ∧ (v'.ownBlock = v.ownBlock ∨ v'.ownBlock = some w.heap.size) := by
 obtain ⟨hp, i, z, hu, hi, hz, hs, hby, hzs⟩ := hT
 rcases hsrc with ⟨rfl, rfl, rfl⟩ | ⟨ad, c, rfl, hc⟩
 · exact ⟨v, w, run_append_owned_none (P := Tryz.prog) (w := w) B _ ty _ i size hu hi v _ _ hown, by simpa using hown, World.grownBy.refl w _, .inl rfl⟩
 · obtain ⟨v', w', h1, h2, h3, _, h5⟩ := run_append_own_at (P := Tryz.prog) w B ST ty T i z size bytes hu hi hz hs hby hzs hp v n xs hown ad m c news hl hc h1 h63 hb hB
   exact ⟨v', w', h1, h2, h3, h5⟩
theorem wpList_append_rt {ST T : TypeId} {size bytes : Nat} (hT : RT ST T size bytes) {w : World} {ops : Array Oper} {rest : List Oper} {o : Oper} {a : Act} {Q : Exit → Act → World → Prop} (hgd : o.guard = none) (s x : Operand)
    (ho : o.op = .call { callee := .builtin .append, args := #[s, x], argTypes := #[ST, ST] })
    (B : Nat) (v : Value) (n : Nat) (xs : List Value) (hs : a.eval s = v) (hown : w.ownsRow B T size v n xs) (src : Value) (m : Nat) (news : List Value) (hx : a.eval x = src) (hsrc : SrcAt w src m news)
    (hl : news.length = m * size) (h1 : ∀ u ∈ news, u.oneCell' = true) (h63 : n + m ≤ maxLen) (hb : (n + m) * bytes ≤ 140737488355328) (hB : B ≤ w.heap.size)
    (h : ∀ v' w', w'.ownsRow B T size v' (n + m) (xs ++ news) → w.grownBy w' v.ownBlock → (v'.ownBlock = v.ownBlock ∨ v'.ownBlock = some w.heap.size) → wpList Tryz.prog ops Q rest (a.put o.dst v') w') : wpList Tryz.prog ops Q (o :: rest) a w := by
 obtain ⟨v', w', hr, h2, h3, h4⟩ := run_append_rt hT w o.type B v n xs hown src m news hsrc hl h1 h63 hb hB
 refine wpList_plain hgd fun K hK => ?_
 unfold Oper.wp execOp
 simp only [ho, resolve, invoke, builtin, Sem.run_bind, Sem.run_pure, Result.andThen_ok, List.map_toArray, List.map_cons, List.map_nil, hs, hx, hr]
 exact hK _ _ (h v' w' h2 h3 h4)
structure OwnI (T : TypeId) (w0 w : World) (v : Value) (xs : List Int) : Prop where
 row : w.ownsRow w0.heap.size T 1 v xs.length (xs.map fun x => Value.int .i64 x)
 fr : Fr0 w0 w
theorem OwnI.nil (T : TypeId) {w0 w : World} (h : Fr0 w0 w) : OwnI T w0 w (.slice none 0 0) [] := ⟨World.ownsRow_nil _ _ _ _, h⟩
theorem OwnI.kept0 {T : TypeId} {w0 w w' : World} {v : Value} {xs : List Int} (h : OwnI T w0 w v xs) (hf : Fr0 w w') : OwnI T w0 w' v xs := ⟨hf.owns h.row, h.fr.trans hf⟩
theorem OwnI.form {T : TypeId} {w0 w : World} {v : Value} {xs : List Int} (h : OwnI T w0 w v xs) : ∃ a cap, v = .slice a xs.length cap := owns_form h.row
theorem OwnI.ge {T : TypeId} {w0 w : World} {v : Value} {xs : List Int} (h : OwnI T w0 w v xs) (k : Nat) (hk : v.ownBlock = some k) : w0.heap.size ≤ k := (h.row.lt k hk).1
theorem src_one (w : World) (x : Value) (T : TypeId) (c : Nat) : SrcAt (w.alloc (.cells #[x] T (0, 0))) (.slice (some ⟨w.heap.size, 0, none⟩) 1 c) 1 [x] := by
 refine .inr ⟨_, c, rfl, fun j u hj => ?_⟩
 have h := World.news_of_block (cs := #[x]) (t := T) (fr := (0, 0)) (heap_alloc_new w (.cells #[x] T (0, 0)))
 exact h j u hj
theorem OwnI.push {T : TypeId} {w0 w w1 : World} {v v' : Value} {xs : List Int} {o : Obj} {y : Int} (h : OwnI T w0 w v xs) (h1 : w1.ownsRow w0.heap.size T 1 v' (xs.length + 1) ((xs.map fun x => Value.int .i64 x) ++ [.int .i64 y])) (hg : (w.alloc o).grownBy w1 v.ownBlock) : OwnI T w0 w1 v' (xs ++ [y]) :=
 ⟨by simpa using h1, Fr.grown (Fr0.alloc h.fr o) hg (fun j hj hlt => by have := h.ge j hj; omega)⟩
theorem wpList_push {ST T : TypeId} (hT : RT ST T 1 8) {w0 w : World} {ops : Array Oper} {rest : List Oper} {o : Oper} {a : Act} {Q : Exit → Act → World → Prop} (hgd : o.guard = none) (s x : Operand)
    (ho : o.op = .call { callee := .builtin .append, args := #[s, x], argTypes := #[ST, ST] })
    (v : Value) (xs : List Int) (hs : a.eval s = v) (hown : OwnI T w0 w v xs) (T' : TypeId) (y : Int) (c H : Nat) (hH : w.heap.size = H) (hx : a.eval x = .slice (some ⟨H, 0, none⟩) 1 c) (hlen : xs.length ≤ 1000000)
    (h : ∀ v' w', OwnI T w0 w' v' (xs ++ [y]) → (w.alloc (.cells #[.int .i64 y] T' (0, 0))).grownBy w' v.ownBlock → (v'.ownBlock = v.ownBlock ∨ v'.ownBlock = some (w.heap.size + 1)) → wpList Tryz.prog ops Q rest (a.put o.dst v') w') :
    wpList Tryz.prog ops Q (o :: rest) a (w.alloc (.cells #[.int .i64 y] T' (0, 0))) := by
 subst hH
 have hsz := hown.fr.size
 refine wpList_append_rt hT hgd s x ho w0.heap.size v xs.length _ hs (hown.row.alloc _) _ 1 [.int .i64 y] hx (src_one w _ T' c) rfl (by simp [Value.oneCell']) (by unfold maxLen; omega) (by omega) (by simp; omega) ?_
 intro v' w' h1 h2 h3
 exact h v' w' (hown.push h1 h2) h2 (by simpa using h3)
def IntsAt (w : World) (a : Option Addr) (xs : List Int) : Prop :=
 ∀ i (h : i < xs.length), ∃ b off cs t fr, a = some ⟨b, off, none⟩ ∧ w.heap[b]? = some (Obj.cells cs t fr) ∧ t ≠ 100 ∧ t ≠ 84 ∧ cs[off + i]? = some (.int .i64 xs[i])
theorem IntsAt.nil (w : World) (a : Option Addr) : IntsAt w a [] := fun i h => by simp at h
theorem IntsAt.kept0 {w w' : World} {a : Option Addr} {xs : List Int} (h : IntsAt w a xs) (hf : Fr0 w w') : IntsAt w' a xs := by
 intro i hi
 obtain ⟨b, off, cs, t, fr, h1, h2, h3⟩ := h i hi
 exact ⟨b, off, cs, t, fr, h1, hf.kept h2, h3⟩
theorem IntsAt.keptK {B mb : Nat} {w w' : World} {a : Option Addr} {xs : List Int} (h : IntsAt w a xs) (hf : Kp B mb w w') : IntsAt w' a xs := by
 intro i hi
 obtain ⟨b, off, cs, t, fr, h1, h2, h3, h4, h5⟩ := h i hi
 exact ⟨b, off, cs, t, fr, h1, hf.cells _ _ _ _ h2 h3 h4, h3, h4, h5⟩
theorem IntsAt.cell {w : World} {a : Option Addr} {xs : List Int} (h : IntsAt w a xs) (i : Nat) (hi : i < xs.length) : ∃ b off, a = some ⟨b, off, none⟩ ∧ b < w.heap.size ∧ w.cell? ⟨b, off + i, none⟩ = some (.int .i64 xs[i]) := by
 obtain ⟨b, off, cs, t, fr, h1, h2, h3, h4, h5⟩ := h i hi
 exact ⟨b, off, h1, lt_of_block h2, by rw [cell_of_block h2]; exact h5⟩
theorem ints_of_own {base : Nat} {T : TypeId} {w : World} {v : Value} {xs : List Int} (h : w.ownsRow base T 1 v xs.length (xs.map fun x => Value.int .i64 x)) (h1 : T ≠ 100) (h2 : T ≠ 84) : ∃ a cap, v = .slice a xs.length cap ∧ IntsAt w a xs := by
 rcases h.2 with ⟨e1, e2⟩ | ⟨g, cap, cur, e1, _, hg, _, _, _, ht⟩
 · have : xs = [] := List.eq_nil_of_length_eq_zero e2
   subst this
   exact ⟨none, 0, e1, IntsAt.nil w none⟩
 · refine ⟨_, cap, e1, fun i hi => ⟨g, 0, cur, T, (0, 0), rfl, hg, h1, h2, ?_⟩⟩
   have := congrArg (fun l => l[i]?) ht
   simp only [Nat.mul_one, List.getElem?_map, List.getElem?_eq_getElem hi, Option.map_some] at this
   rw [List.getElem?_take_of_lt hi] at this
   rw [Nat.zero_add, ← Array.getElem?_toList]
   exact this
def sumI : List Int → Int
 | [] => 0
 | x :: r => x + sumI r
theorem sumI_append (a b : List Int) : sumI (a ++ b) = sumI a + sumI b := by
 induction a with
 | nil => simp [sumI]
 | cons x r ih => simp [sumI, ih]; omega
theorem sumI_nn {a : List Int} (h : ∀ x ∈ a, 0 ≤ x) : 0 ≤ sumI a := by
 induction a with
 | nil => simp [sumI]
 | cons x r ih =>
  have := h x (by simp)
  have := ih (fun y hy => h y (by simp [hy]))
  simp [sumI]; omega
theorem sumI_take {a : List Int} (h : ∀ x ∈ a, 0 ≤ x) (k : Nat) (hk : k < a.length) : 0 ≤ sumI (a.take k) ∧ sumI (a.take (k + 1)) = sumI (a.take k) + a[k] ∧ sumI (a.take (k + 1)) ≤ sumI a ∧ 0 ≤ a[k] := by
 refine ⟨sumI_nn (fun x hx => h x (List.mem_of_mem_take hx)), ?_, ?_, h _ (List.getElem_mem _)⟩
 · rw [List.take_succ_eq_append_getElem hk, sumI_append]; simp [sumI]
 · have := sumI_append (a.take (k + 1)) (a.drop (k + 1))
   rw [List.take_append_drop] at this
   have := sumI_nn (a := a.drop (k + 1)) (fun x hx => h x (List.mem_of_mem_drop hx))
   omega
set_option maxRecDepth 100000 in
set_option maxHeartbeats 1000000 in
theorem len_Sum {w : World} {a : Option Addr} {cap : Nat} {xs : List Int} (hI : IntsAt w a xs) (hn : ∀ x ∈ xs, 0 ≤ x) (hl : xs.length ≤ 1000000) (hs : sumI xs ≤ 1152921504606846976) :
    Calls Tryz.prog 78 #[.slice a xs.length cap] w fun e w' => e = .returned (.tuple #[.int .i64 (sumI xs), .nilIface]) ∧ w = w' := by
 have HN := Lib.hid hn
 have HI := Lib.hid hI
 clear hn hI
 go_enter Tryz.func78, Tryz.ntmps78
 go_wp2_with fail
 go_loop [4, 11] (fun s i => ∃ k : Nat, k ≤ xs.length ∧ i = .int .i64 k ∧ s = .int .i64 (sumI (xs.take k))) (fun _ i => xs.length - (intOf i).toNat)
 case atStart => exact ⟨0, Nat.zero_le _, rfl, rfl⟩
 case round =>
  obtain ⟨k, hk, rfl, rfl⟩ := hrel
  by_cases hlt : k < xs.length
  · obtain ⟨b, off, rfl, lb, hc⟩ := HI.out.cell k hlt
    obtain ⟨q1, q2, q3, q4⟩ := sumI_take HN.out k hlt
    have Q2 := Lib.hid q2
    have q5 : sumI (xs.take k) + xs[k] ≤ 1152921504606846976 := by omega
    clear q2 HI HN
    generalize xs[k] = y at *
    generalize hS : sumI (xs.take k) = S at *
    generalize hS' : sumI (xs.take (k + 1)) = S' at *
    have HS := Lib.hid hS
    have HS' := Lib.hid hS'
    clear hS hS'
    have CA := Lib.hid (fun w => len_Add_ok S y w q1 q4 q5)
    go_wp2_with (go_at_call 30; refine (CA.out _).mono ?_; rintro e w' ⟨rfl, rfl⟩)
    go_round
    case rel => exact ⟨k + 1, by omega, by go_num, by rw [HS'.out, Q2.out]⟩
    case measure => simp [intOf]; omega
  · have hz : k = xs.length := by omega
    have HX := Lib.hid (show sumI (xs.take k) = sumI xs by rw [hz, List.take_length])
    clear hz HI HN
    go_wp2_with fail
    go_ret2
    exact ⟨by show Ending.returned (.tuple #[.int .i64 (sumI (xs.take k)), .nilIface]) = _; rw [HX.out], rfl⟩
theorem ne_of_types {w : World} {a b : Nat} {c1 c2 : Array Value} {t1 t2 : TypeId} {f1 f2 : Nat × Nat} (h1 : w.heap[a]? = some (.cells c1 t1 f1)) (h2 : w.heap[b]? = some (.cells c2 t2 f2)) (ht : t1 ≠ t2) : a ≠ b := by
 rintro rfl
 rw [h1] at h2
 simp at h2
 exact ht h2.2.1
theorem ne_of_map {w : World} {a b : Nat} {es : Array MapEntry} {c : Nat} {c2 : Array Value} {t2 : TypeId} {f2 : Nat × Nat} (h1 : w.heap[a]? = some (.map es c)) (h2 : w.heap[b]? = some (.cells c2 t2 f2)) : a ≠ b := by
 rintro rfl
 rw [h1] at h2
 simp at h2
theorem owns_block {w : World} {base : Nat} {e : TypeId} {size n : Nat} {v : Value} {xs : List Value} (h : w.ownsRow base e size v n xs) {k : Nat} (hk : v.ownBlock = some k) : ∃ cur, w.heap[k]? = some (.cells cur e (0, 0)) := by
 rcases h.2 with ⟨h1, _⟩ | ⟨g, cap, cur, h1, _, hg, _⟩
 · rw [h1] at hk; simp [Value.ownBlock] at hk
 · rw [h1] at hk
   simp [Value.ownBlock] at hk
   subst hk
   exact ⟨cur, hg⟩
theorem Sto.push {B : Nat} {w w' : World} {p mb : Nat} {most : Int} {L : List Ent} (hS : Sto B w p mb most L) {base : Nat} {T : TypeId} {size n : Nat} {v : Value} {xs : List Value} (ho : w.ownsRow base T size v n xs)
    (h1 : T ≠ 100) (h2 : T ≠ 84) {o : Obj} (hg : (w.alloc o).grownBy w' v.ownBlock) : Sto B w' p mb most L := by
 obtain ⟨sv, hS, q⟩ := hS
 refine ⟨sv, hS.kept (S := fun k => v.ownBlock = some k) (Fr.grown ((Fr.refl _ w).alloc o) hg (fun k hk _ => hk)) ?_ ?_ ?_, q⟩
 · intro h
   obtain ⟨cur, hc⟩ := owns_block ho h
   exact ne_of_types hS.ptr hc (fun e => h1 e.symm) rfl
 · intro h
   obtain ⟨cur, hc⟩ := owns_block ho h
   exact ne_of_map hS.mp hc rfl
 · intro k hk h
   obtain ⟨cur, hc⟩ := owns_block ho h
   obtain ⟨cur2, hc2⟩ := owns_block hS.own hk
   exact ne_of_types hc2 hc (fun e => h2 e.symm) rfl
theorem Kp.grown {B mb : Nat} {w0 w w' : World} {row : Option Nat} (h : Kp B mb w0 w) (hg : w.grownBy w' row) (hr : ∀ k, row = some k → w0.heap.size ≤ k) : Kp B mb w0 w' := by
 have key : ∀ k, k < w0.heap.size → w'.heap[k]? = w.heap[k]? := fun k hk => hg.block k (Nat.lt_of_lt_of_le hk h.size) (fun e => by have := hr k e.symm; omega)
 refine ⟨hg.os.trans h.os, hg.tape.trans h.tape, hg.output.trans h.output, Nat.le_trans h.size hg.size, fun k h1 h2 => (key k h2).trans (h.low k h1 h2), fun k cs t f e n1 n2 => ?_, fun k es n e ne => ?_⟩
 · rw [key k (lt_of_block e)]; exact h.cells k cs t f e n1 n2
 · rw [key k (lt_of_block e)]; exact h.maps k es n e ne
theorem Kp.alloc {B mb : Nat} {w0 w : World} (h : Kp B mb w0 w) (o : Obj) : Kp B mb w0 (w.alloc o) := h.trans (Kp.of0 ((Fr0.refl w).alloc o))
theorem wpList_pushR {ST T : TypeId} (hT : RT ST T 1 8) {w : World} {ops : Array Oper} {rest : List Oper} {o : Oper} {a : Act} {Q : Exit → Act → World → Prop} (hgd : o.guard = none) (s x : Operand)
    (ho : o.op = .call { callee := .builtin .append, args := #[s, x], argTypes := #[ST, ST] })
    (base : Nat) (v : Value) (xs : List Int) (hs : a.eval s = v) (hown : w.ownsRow base T 1 v xs.length (xs.map fun x => Value.int .i64 x)) (hb : base ≤ w.heap.size) (T' : TypeId) (y : Int) (c H : Nat) (hH : w.heap.size = H) (hx : a.eval x = .slice (some ⟨H, 0, none⟩) 1 c) (hlen : xs.length ≤ 1000000)
    (h : ∀ v' w', w'.ownsRow base T 1 v' (xs ++ [y]).length ((xs ++ [y]).map fun x => Value.int .i64 x) → (w.alloc (.cells #[.int .i64 y] T' (0, 0))).grownBy w' v.ownBlock → (v'.ownBlock = v.ownBlock ∨ v'.ownBlock = some (w.heap.size + 1)) → wpList Tryz.prog ops Q rest (a.put o.dst v') w') :
    wpList Tryz.prog ops Q (o :: rest) a (w.alloc (.cells #[.int .i64 y] T' (0, 0))) := by
 subst hH
 refine wpList_append_rt hT hgd s x ho base v xs.length _ hs (hown.alloc _) _ 1 [.int .i64 y] hx (src_one w _ T' c) rfl (by simp [Value.oneCell']) (by unfold maxLen; omega) (by omega) (by simp; omega) ?_
 intro v' w' h1 h2 h3
 exact h v' w' (by simpa using h1) h2 (by simpa using h3)
end Go.Proofs.YtgldjpldldknoaaGreatDoor
/- Depths and lengths of balanced texts, and the walk of balance.Concat. -/
set_option linter.unusedSimpArgs false
set_option linter.unusedVariables false
namespace Go.Proofs.YtgldjpldldknoaaGreatDoor
open Go.RowKit
def lst : Nat → Nat
 | 0 => 1
 | 1 => 2
 | n + 2 => lst (n + 1) + lst n
theorem lst_pos : ∀ n, 1 ≤ lst n
 | 0 => by simp [lst]
 | 1 => by simp [lst]
 | n + 2 => by have := lst_pos (n + 1); simp only [lst]; omega
theorem lst_step (n : Nat) : lst n ≤ lst (n + 1) := by
 cases n with
 | zero => simp [lst]
 | succ n => simp only [lst]; omega
theorem lst_mono {a b : Nat} (h : a ≤ b) : lst a ≤ lst b := by
 induction b with
 | zero => have : a = 0 := by omega
           subst this; exact Nat.le_refl _
 | succ b ih =>
  by_cases e : a = b + 1
  · subst e; exact Nat.le_refl _
  · exact Nat.le_trans (ih (by omega)) (lst_step b)
theorem bal_lst {L : List Ent} (hd : DOk L) (hs : SOk L) : ∀ (n : Nat) (id : Int) (t : List Int) (d : Int), d.toNat < n → Bal L id t d → lst d.toNat ≤ t.length := by
 intro n
 induction n with
 | zero => intro id t d h; omega
 | succ n ih =>
  intro id t d hn hb
  have d0 : 0 ≤ d := by have := (hs.at id hb.known).2.1; rw [hb.depth] at this; exact this
  by_cases h : d = 0
  · have := bal_one hd hs hb h
    subst h
    rw [this]; exact Nat.le_refl _
  · obtain ⟨l, r, tl, tr, dl, dr, hru, hbl, hbr, hst, hdd, hd1, hd2⟩ := bal_parts hd hb (by omega)
    have dl0 : 0 ≤ dl := by have := (hs.at l hbl.known).2.1; rw [hbl.depth] at this; exact this
    have dr0 : 0 ≤ dr := by have := (hs.at r hbr.known).2.1; rw [hbr.depth] at this; exact this
    have i1 := ih l tl dl (by omega) hbl
    have i2 := ih r tr dr (by omega) hbr
    rw [hst, List.length_append]
    by_cases e : d = 1
    · have := lst_pos dl.toNat
      have := lst_pos dr.toNat
      subst e
      show 2 ≤ _
      omega
    · obtain ⟨m, hm⟩ : ∃ m : Nat, d.toNat = m + 2 := ⟨d.toNat - 2, by omega⟩
      rw [hm]
      simp only [lst]
      have h1 : lst m ≤ lst (min dl dr).toNat := lst_mono (by omega)
      have h2 : lst (m + 1) ≤ lst (max dl dr).toNat := lst_mono (by omega)
      by_cases c : dl ≤ dr
      · rw [show min dl dr = dl by omega] at h1
        rw [show max dl dr = dr by omega] at h2
        omega
      · rw [show min dl dr = dr by omega] at h1
        rw [show max dl dr = dl by omega] at h2
        omega
theorem BalZ.deep {L : List Ent} {id : Int} {t : List Int} {d : Int} (h : BalZ L id t d) (hd : DOk L) (hs : SOk L) {D : Nat} (hD : t.length < lst (D + 1)) : 0 ≤ d ∧ d ≤ D := by
 have d0 : 0 ≤ d := by have := (hs.at id h.known).2.1; rw [h.depth] at this; exact this
 refine ⟨d0, ?_⟩
 by_cases e : id = 0
 · have := (h.of0 e).2; omega
 · have h1 := bal_lst hd hs (d.toNat + 1) id t d (by omega) (h.bal e)
   by_cases c : d ≤ D
   · exact c
   · have : lst (D + 1) ≤ lst d.toNat := lst_mono (by omega)
     omega
def AllB (L : List Ent) : List Int → List (List Int) → Prop
 | [], [] => True
 | id :: ids, t :: ts => (∃ d, BalZ L id t d) ∧ AllB L ids ts
 | _, _ => False
theorem AllB.len {L : List Ent} : ∀ {ids : List Int} {ts : List (List Int)}, AllB L ids ts → ids.length = ts.length
 | [], [], _ => rfl
 | _ :: ids, _ :: ts, h => by simp [AllB.len h.2]
theorem AllB.get {L : List Ent} : ∀ {ids : List Int} {ts : List (List Int)}, AllB L ids ts → ∀ (i : Nat) (h1 : i < ids.length) (h2 : i < ts.length), ∃ d, BalZ L ids[i] ts[i] d
 | _ :: ids, _ :: ts, h, 0, _, _ => h.1
 | _ :: ids, _ :: ts, h, i + 1, h1, h2 => by
  have := AllB.get h.2 i (by simpa using h1) (by simpa using h2)
  simpa using this
theorem AllB.more {L L' : List Ent} {n : Nat} (hg : Grows L L' n) (hd : DOk L) : ∀ {ids : List Int} {ts : List (List Int)}, AllB L ids ts → AllB L' ids ts
 | [], [], _ => trivial
 | _ :: ids, _ :: ts, h => ⟨by obtain ⟨d, hb⟩ := h.1; exact ⟨d, hg.balz hd hb⟩, AllB.more hg hd h.2⟩
theorem AllB.snoc {L : List Ent} : ∀ {ids : List Int} {ts : List (List Int)}, AllB L ids ts → ∀ {id : Int} {t : List Int} {d : Int}, BalZ L id t d → AllB L (ids ++ [id]) (ts ++ [t])
 | [], [], _, _, _, _, hb => ⟨⟨_, hb⟩, trivial⟩
 | _ :: ids, _ :: ts, h, _, _, _, hb => ⟨h.1, AllB.snoc h.2 hb⟩
theorem AllB.append {L : List Ent} : ∀ {ids ids' : List Int} {ts ts' : List (List Int)}, AllB L ids ts → AllB L ids' ts' → AllB L (ids ++ ids') (ts ++ ts')
 | [], _, [], _, _, h' => h'
 | _ :: ids, _, _ :: ts, _, h, h' => ⟨h.1, AllB.append h.2 h'⟩
theorem flat_take (ts : List (List Int)) (k : Nat) (h : k < ts.length) : (ts.take (k + 1)).flatten = (ts.take k).flatten ++ ts[k] := by
 rw [List.take_succ_eq_append_getElem h, List.flatten_append]; simp
theorem flat_le (ts : List (List Int)) (k : Nat) : (ts.take k).flatten.length ≤ ts.flatten.length := by
 conv => rhs; rw [← List.take_append_drop k ts]
 rw [List.flatten_append, List.length_append]; omega
def lenOf (L : List Ent) (id : Int) : Int := (entAt L id).wt.len
theorem sum_lens {L : List Ent} (hd : DOk L) (hs : SOk L) : ∀ {ids : List Int} {ts : List (List Int)}, AllB L ids ts → sumI (ids.map (lenOf L)) = ts.flatten.length
 | [], [], _ => rfl
 | id :: ids, t :: ts, h => by
  obtain ⟨d, hb⟩ := h.1
  have := sum_lens hd hs h.2
  have hl := hb.len hd hs
  simp only [List.map_cons, sumI, List.flatten_cons, List.length_append, lenOf, this]
  omega
theorem lens_nn {L : List Ent} (hd : DOk L) (hs : SOk L) : ∀ {ids : List Int} {ts : List (List Int)}, AllB L ids ts → ∀ x ∈ ids.map (lenOf L), 0 ≤ x
 | [], [], _, x, hx => by simp at hx
 | id :: ids, t :: ts, h, x, hx => by
  obtain ⟨d, hb⟩ := h.1
  have hl := hb.len hd hs
  simp only [List.map_cons, List.mem_cons] at hx
  rcases hx with rfl | hx
  · unfold lenOf; omega
  · exact lens_nn hd hs h.2 x hx
structure ConR (B : Nat) (w wr : World) (p mb : Nat) (most : Int) (L : List Ent) (t : List Int) (D k : Nat) (id : Int) (L' : List Ent) : Prop where
 st : Sto B wr p mb most L'
 kp : Kp B mb w wr
 grows : Grows L L' (k * (3 * D + 1))
 bal : ∃ d, BalZ L' id t d
set_option maxRecDepth 100000 in
set_option maxHeartbeats 2000000 in
theorem bal_Concat {B : Nat} {w : World} {p mb : Nat} {most : Int} {L : List Ent} {ids : List Int} {ts : List (List Int)} {a : Option Addr} {cap : Nat} (D : Nat) (hR : Room B w p mb most L (ids.length * (3 * D + 1))) (hI : IntsAt w a ids) (hA : AllB L ids ts)
    (hl : ids.length ≤ 1000000) (ht : (ts.flatten.length : Int) ≤ 1152921504606846976) (hD : ts.flatten.length < lst (D + 1)) :
    Calls Tryz.prog 64 #[.pointer (some ⟨p, 0, none⟩), .slice a ids.length cap] w (ZPost B w p mb most L ts.flatten (fun d k => d ≤ D ∧ k ≤ ids.length * (3 * D + 1))) := by
 obtain ⟨i0, hi0, hz0, hz1, hz2⟩ := info_parts info_int
 have hu : Tryz.prog.underlying 156 = some (.slice 3) := Tryz.underlying156
 have HR := Lib.hid hR
 have HI := Lib.hid hI
 have HA := Lib.hid hA
 have HLE := Lib.hid hA.len
 have HT := Lib.hid ht
 have HTN := Lib.hid (show ts.flatten.length ≤ 1152921504606846976 by omega)
 have HD := Lib.hid hD
 have b2 : i0.bytes * ids.length ≤ 281474976710656 := by rw [hz2]; omega
 have b3 : ids.length ≤ maxLen := by unfold maxLen; omega
 clear hR hI hA ht hD
 go_enter Tryz.func64, Tryz.ntmps64
 go_wp2_with (at_make; refine wpList_make_own _ rfl _ _ _ rfl w.heap.size 3 i0 _ 1 hu hi0 hz0 hz1 .i64 .i64 _ ids.length rfl rfl rfl b2 b3 (Nat.le_refl _) ?_; intro w1 hown hgrow)
 have hO : OwnI 3 w w1 (.slice (some ⟨w.heap.size, 0, none⟩) 0 ids.length) [] := ⟨hown, Fr.grown (Fr0.refl w) hgrow (fun k hk => by cases hk)⟩
 have HO := Lib.hid hO
 clear hown hgrow hO b2 b3 hz0 hz1 hz2 hi0 hu
 go_loopw [6, 27] (fun v i wr => ∃ k : Nat, k ≤ ids.length ∧ i = .int .i64 k ∧ OwnI 3 w wr v ((ids.take k).map (lenOf L))) (fun _ i _ => ids.length - (intOf i).toNat)
 case atStart => exact ⟨0, Nat.zero_le _, rfl, HO.out⟩
 case round =>
  obtain ⟨k, hk, rfl, hO⟩ := hrel
  clear HO
  have HO := Lib.hid hO
  by_cases hlt : k < ids.length
  · obtain ⟨b, off, rfl, lb, hc⟩ := (HI.out.kept0 hO.fr).cell k hlt
    obtain ⟨d, hb⟩ := HA.out.get k hlt (by have := HLE.out; omega)
    have hS := HR.out.st.kept0 hO.fr
    have CB := Lib.hid (sto_Balanced hS ids[k] hb.known true hb.even)
    have CW := Lib.hid (fun W (hW : Fr0 wr W) => sto_Weight (hS.kept0 hW) ids[k] hb.known)
    have HY : Hid (lenOf L ids[k] = (entAt L ids[k]).wt.len) := rfl
    have HX := Lib.hid (show (ids.take (k + 1)).map (lenOf L) = (ids.take k).map (lenOf L) ++ [lenOf L ids[k]] by rw [List.take_succ_eq_append_getElem hlt, List.map_append]; rfl)
    have HL := Lib.hid (show ((ids.take k).map (lenOf L)).length ≤ 1000000 by rw [List.length_map, List.length_take]; omega)
    clear hb hS hO HA HI HR HLE HT HD
    generalize lenOf L ids[k] = ly at *
    generalize (entAt L ids[k]).wt = x at *
    generalize ids[k] = y at *
    go_wp2_with fail
    refine CB.out.mono ?_
    rintro e w2 ⟨rfl, f2⟩
    go_wp2_with fail
    refine (CW.out _ f2).mono ?_
    rintro e w3 ⟨rfl, f3⟩
    have hO3 := (HO.out.kept0 (f2.trans f3)).kept0 ((Fr0.refl w3).alloc (.cells #[.int .i64 x.len, .int .i64 x.lines, .int .i64 x.head, .int .i64 x.tail, .int .u64 x.val, .int .u64 x.scale] 47 (0, 0)))
    have hL := HL.out
    clear f2 f3 HL
    go_wp2_with (at_builtin; refine wpList_push rt_int rfl _ _ rfl _ _ rfl hO3 3 x.len 1 _ (by simp) rfl hL ?_; intro v' w4 hO4 hg4 hat4)
    go_roundw
    case rel => exact ⟨k + 1, by omega, by go_num, by rw [HX.out, HY.out]; exact hO4⟩
    case measure => simp [intOf]; omega
  · have hz : k = ids.length := by omega
    subst hz
    rw [List.take_length] at hO
    clear hk hlt HO
    obtain ⟨sa, scap, rfl, hIs⟩ := ints_of_own hO.row (by decide) (by decide)
    have hsum := sum_lens HR.out.dok HR.out.sok HA.out
    have CS := Lib.hid (len_Sum (cap := scap) hIs (lens_nn HR.out.dok HR.out.sok HA.out) (by rw [List.length_map]; exact hl) (by rw [hsum]; exact HT.out))
    rw [hsum] at CS
    rw [List.length_map] at CS ⊢
    have HFR := Lib.hid hO.fr
    clear hIs hsum hO
    generalize (ts.flatten.length : Int) = TT at *
    go_wp2_with fail
    refine CS.out.mono ?_
    rintro e w' ⟨rfl, rfl⟩
    clear CS
    go_wp2_with fail
    go_loopw [14, 68] (fun v i wx => ∃ (k : Nat) (id : Int) (L' : List Ent), k ≤ ids.length ∧ i = .int .i64 k ∧ v = .int .i64 id ∧ ConR B w wx p mb most L (ts.take k).flatten D k id L') (fun _ i _ => ids.length - (intOf i).toNat)
    case atStart => exact ⟨0, 0, L, Nat.zero_le _, rfl, rfl, HR.out.st.kept0 HFR.out, Kp.of0 HFR.out, (Grows.refl HR.out.sok HR.out.dok).le (by omega), ⟨0, BalZ.zero L⟩⟩
    case round =>
     obtain ⟨k, id, L', hk, rfl, rfl, hr⟩ := hrel
     by_cases hlt : k < ids.length
     · obtain ⟨b, off, rfl, lb, hc⟩ := (HI.out.keptK hr.kp).cell k hlt
       have hlt2 : k < ts.length := by have := HLE.out; omega
       obtain ⟨d, hb⟩ := HA.out.get k hlt hlt2
       have hb' := hr.grows.balz HR.out.dok hb
       obtain ⟨e, he⟩ := hr.bal
       have q1 := flat_take ts k hlt2
       have q2 := flat_le ts (k + 1)
       rw [q1, List.length_append] at q2
       have q3 := HD.out
       obtain ⟨d0, d1⟩ := hb'.deep hr.grows.dok hr.grows.sok (D := D) (by omega)
       obtain ⟨e0, e1⟩ := he.deep hr.grows.dok hr.grows.sok (D := D) (by omega)
       have q4 : (k + 1) * (3 * D + 1) ≤ ids.length * (3 * D + 1) := Nat.mul_le_mul_right _ (by omega)
       have q5 : (k + 1) * (3 * D + 1) = k * (3 * D + 1) + (3 * D + 1) := by rw [Nat.add_mul, Nat.one_mul]
       have qN : joinN e d ≤ 3 * D + 1 := by unfold joinN; omega
       have CJ := Lib.hid (avl_Join ((HR.out).next (k := joinN e d) hr.st hr.kp hr.grows (by omega)) he hb' (by have := HTN.out; omega))
       have HK := Lib.hid hr.kp
       have HG := Lib.hid hr.grows
       have Q1 := Lib.hid q1
       have Q5 := Lib.hid q5
       have QN := Lib.hid qN
       clear hb hb' he hr q1 q2 q3 q4 q5 qN HA HI HR HLE HT HD
       generalize ids[k] = y at *
       go_wp2_with fail
       refine CJ.out.mono ?_
       rintro e w4 ⟨L2, z, dz, kz, rfl, hS2, hK2, g2, bz, hz1, hz2⟩
       have HN : Hid (ConR B w w4 p mb most L (ts.take (k + 1)).flatten D (k + 1) z L2) := ⟨hS2, HK.out.trans hK2, HG.out.trans g2 (by have := Q5.out; have := QN.out; omega), dz, by rw [Q1.out]; exact bz⟩
       clear hS2 hK2 g2 bz CJ hz1
       go_wp2_with fail
       go_roundw
       case rel => exact ⟨k + 1, z, L2, by omega, by go_num, rfl, HN.out⟩
       case measure => simp [intOf]; omega
     · have hz : k = ids.length := by omega
       have hz2 : (ts.take k).flatten = ts.flatten := by rw [hz, HLE.out, List.take_length]
       obtain ⟨e, he⟩ := hr.bal
       rw [hz2] at he
       obtain ⟨e0, e1⟩ := he.deep hr.grows.dok hr.grows.sok HD.out
       have HX : Hid (ZPost B w p mb most L ts.flatten (fun d k => d ≤ D ∧ k ≤ ids.length * (3 * D + 1)) (.returned (.tuple #[.int .i64 id, .nilIface])) wr) := ⟨L', id, e, _, rfl, hr.st, hr.kp, hr.grows, he, e1, by rw [hz]; exact Nat.le_refl _⟩
       clear hr he hz hz2 HA HI HR HLE HT HD
       go_wp2_with fail
       go_ret2
       exact HX.out
end Go.Proofs.YtgldjpldldknoaaGreatDoor
/- The walk of split.Cut. -/
set_option linter.unusedSimpArgs false
set_option linter.unusedVariables false
namespace Go.Proofs.YtgldjpldldknoaaGreatDoor
open Go.RowKit
def bnd (cs : List Int) (T : Int) (k : Nat) : Int := (0 :: (cs ++ [T])).getD k 0
theorem bnd_last (cs : List Int) (T : Int) : bnd cs T (cs.length + 1) = T := by
 unfold bnd
 rw [List.getD_cons_succ, List.getD_eq_getElem?_getD, List.getElem?_append_right (Nat.le_refl _)]
 simp
def Incr (cs : List Int) (T : Int) : Prop := ∀ k, k ≤ cs.length → bnd cs T k ≤ bnd cs T (k + 1)
theorem Incr.nn {cs : List Int} {T : Int} (h : Incr cs T) : ∀ k, k ≤ cs.length + 1 → 0 ≤ bnd cs T k
 | 0, _ => Int.le_refl _
 | k + 1, hk => by have := h.nn k (by omega); have := h k (by omega); omega
theorem Incr.up {cs : List Int} {T : Int} (h : Incr cs T) : ∀ (j k : Nat), k + j = cs.length + 1 → bnd cs T k ≤ T
 | 0, k, hk => by
  have : k = cs.length + 1 := by omega
  subst this
  rw [bnd_last]; exact Int.le_refl _
 | j + 1, k, hk => by
  have := h.up j (k + 1) (by omega)
  have := h k (by omega)
  omega
def pieces (t : List Int) (cs : List Int) : List (List Int) := (List.range (cs.length + 1)).map fun k => cutL t (bnd cs t.length k) (bnd cs t.length (k + 1) - bnd cs t.length k)
end Go.Proofs.YtgldjpldldknoaaGreatDoor
/- Lists of structs in memory, for any struct: reading and append. -/
set_option linter.unusedSimpArgs false
set_option linter.unusedVariables false
namespace Go.Proofs.YtgldjpldldknoaaGreatDoor
open Go.RowKit
def RG {α : Type} (vals : α → List Value) (size B : Nat) (w : World) (a : Option Addr) (xs : List α) : Prop :=
 ∀ i (h : i < xs.length), ∃ b off, a = some ⟨b, off, none⟩ ∧ b < w.heap.size ∧ (b < B ∨ ∃ cs t fr, w.heap[b]? = some (Obj.cells cs t fr) ∧ t ≠ 100 ∧ t ≠ 84) ∧
  ∀ j u, (vals xs[i])[j]? = some u → w.cell? ⟨b, off + i * size + j, none⟩ = some u
theorem RG.nil {α : Type} (vals : α → List Value) (size B : Nat) (w : World) (a : Option Addr) : RG vals size B w a [] := fun i h => by simp at h
theorem RG.kept0 {α : Type} {vals : α → List Value} {size B : Nat} {w w' : World} {a : Option Addr} {xs : List α} (h : RG vals size B w a xs) (hf : Fr0 w w') : RG vals size B w' a xs := by
 intro i hi
 obtain ⟨b, off, h1, h2, h3, h4⟩ := h i hi
 refine ⟨b, off, h1, by have := Fr.size hf; omega, ?_, fun j u hj => (hf.cell b _ h2).trans (h4 j u hj)⟩
 rcases h3 with h3 | ⟨cs, t, fr, g1, g2⟩
 · exact .inl h3
 · exact .inr ⟨cs, t, fr, hf.kept g1, g2⟩
theorem RG.keptK {α : Type} {vals : α → List Value} {size B mb : Nat} {w w' : World} {a : Option Addr} {xs : List α} (h : RG vals size B w a xs) (hf : Kp B mb w w') : RG vals size B w' a xs := by
 intro i hi
 obtain ⟨b, off, h1, h2, h3, h4⟩ := h i hi
 refine ⟨b, off, h1, by have := hf.size; omega, ?_, fun j u hj => ?_⟩
 · rcases h3 with h3 | ⟨cs, t, fr, g1, g2⟩
   · exact .inl h3
   · exact .inr ⟨cs, t, fr, hf.cells _ _ _ _ g1 g2.1 g2.2, g2⟩
 · rcases h3 with h3 | ⟨cs, t, fr, g1, g2⟩
   · rw [World.cell?_of_block (hf.low b h3 h2)]; exact h4 j u hj
   · have := h4 j u hj
     rw [cell_of_block g1] at this
     rw [cell_of_block (hf.cells _ _ _ _ g1 g2.1 g2.2)]; exact this
theorem RG.tail {α : Type} {vals : α → List Value} {size B : Nat} {w : World} {b off : Nat} {xs : List α} (h : RG vals size B w (some ⟨b, off, none⟩) xs) : RG vals size B w (some ⟨b, off + size, none⟩) (xs.drop 1) := by
 intro i hi
 have hi2 : 1 + i < xs.length := by rw [List.length_drop] at hi; omega
 obtain ⟨b', off', h1, h2, h3, h4⟩ := h (1 + i) hi2
 simp only [Option.some.injEq, Addr.mk.injEq, and_true] at h1
 obtain ⟨rfl, rfl⟩ := h1
 refine ⟨b, off + size, rfl, h2, h3, fun j u hj => ?_⟩
 rw [List.getElem_drop] at hj
 have := h4 j u hj
 rw [show off + size + i * size + j = off + (1 + i) * size + j by rw [Nat.add_mul, Nat.one_mul]; omega]
 exact this
theorem rg_of_own {α : Type} {vals : α → List Value} {size B base : Nat} {T : TypeId} {w : World} {v : Value} {xs : List α} (hv : ∀ x ∈ xs, (vals x).length = size) (h : w.ownsRow base T size v xs.length (xs.flatMap vals)) (h1 : T ≠ 100) (h2 : T ≠ 84) :
    ∃ a cap, v = .slice a xs.length cap ∧ RG vals size B w a xs := by
 rcases h.2 with ⟨e1, e2⟩ | ⟨g, cap, cur, e1, _, hg, _, _, _, ht⟩
 · have : xs = [] := List.eq_nil_of_length_eq_zero e2
   subst this
   exact ⟨none, 0, e1, RG.nil _ _ _ _ _⟩
 · refine ⟨_, cap, e1, fun i hi => ⟨g, 0, rfl, lt_of_block hg, .inr ⟨cur, T, (0, 0), hg, h1, h2⟩, fun j u hj => ?_⟩⟩
   have hjs : j < size := by
    have := (List.getElem?_eq_some_iff.1 hj).1
    rw [hv _ (List.getElem_mem hi)] at this
    exact this
   have e := flat_get vals size xs hv i j hjs _ (List.getElem?_eq_getElem hi)
   have hlt : i * size + j < xs.length * size := by
    have : (i + 1) * size ≤ xs.length * size := Nat.mul_le_mul_right _ hi
    rw [Nat.add_mul, Nat.one_mul] at this
    omega
   have h3 := congrArg (fun l => l[i * size + j]?) ht
   rw [List.getElem?_take_of_lt (by omega)] at h3
   rw [cell_of_block hg, Nat.zero_add, ← Array.getElem?_toList, h3, e, hj]
theorem wpList_pushG {α : Type} {vals : α → List Value} {ST T : TypeId} {size bytes : Nat} (hT : RT ST T size bytes) {w : World} {ops : Array Oper} {rest : List Oper} {o : Oper} {a : Act} {Q : Exit → Act → World → Prop} (hgd : o.guard = none) (s x : Operand)
    (ho : o.op = .call { callee := .builtin .append, args := #[s, x], argTypes := #[ST, ST] })
    (base : Nat) (v : Value) (xs : List α) (hs : a.eval s = v) (hown : w.ownsRow base T size v xs.length (xs.flatMap vals)) (hb : base ≤ w.heap.size) (T' : TypeId) (y : α) (cs : Array Value) (hcs : cs.toList = vals y) (hy : (vals y).length = size) (h1 : ∀ u ∈ vals y, u.oneCell' = true)
    (c H : Nat) (hH : w.heap.size = H) (hx : a.eval x = .slice (some ⟨H, 0, none⟩) 1 c) (hbytes : bytes ≤ 100) (hlen : xs.length ≤ 1000000)
    (h : ∀ v' w', w'.ownsRow base T size v' (xs ++ [y]).length ((xs ++ [y]).flatMap vals) → (w.alloc (.cells cs T' (0, 0))).grownBy w' v.ownBlock → (v'.ownBlock = v.ownBlock ∨ v'.ownBlock = some (w.heap.size + 1)) → wpList Tryz.prog ops Q rest (a.put o.dst v') w') :
    wpList Tryz.prog ops Q (o :: rest) a (w.alloc (.cells cs T' (0, 0))) := by
 subst hH
 have hby : (xs.length + 1) * bytes ≤ 140737488355328 := by
  have : (xs.length + 1) * bytes ≤ 1000001 * 100 := Nat.mul_le_mul (by omega) hbytes
  omega
 have hsrc : SrcAt (w.alloc (.cells cs T' (0, 0))) (.slice (some ⟨w.heap.size, 0, none⟩) 1 c) 1 (vals y) := by
  refine .inr ⟨_, c, rfl, fun j u hj => ?_⟩
  have h := World.news_of_block (cs := cs) (t := T') (fr := (0, 0)) (heap_alloc_new w (.cells cs T' (0, 0)))
  rw [← hcs] at hj
  exact h j u hj
 refine wpList_append_rt hT hgd s x ho base v xs.length _ hs (hown.alloc _) _ 1 (vals y) hx hsrc (by rw [hy]; omega) h1 (by unfold maxLen; omega) hby (by simp; omega) ?_
 intro v' w' h1 h2 h3
 exact h v' w' (by simpa using h1) h2 (by simpa using h3)
end Go.Proofs.YtgldjpldldknoaaGreatDoor

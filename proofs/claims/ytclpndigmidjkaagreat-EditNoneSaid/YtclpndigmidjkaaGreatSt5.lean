/- The walk of Letter. -/
import Derived.Test.YtclpndigmidjkaaGreatSt4
set_option linter.unusedSimpArgs false
set_option linter.unusedVariables false
namespace Go.Proofs.YtclpndigmidjkaaGreat
open Go.RowKit

/-- From w to w' the store has come to L', and nothing else that was there has changed. -/
def Stepped (w w' : World) (p mb : Nat) (most : Int) (sv : Value) (L' : List Ent) : Prop :=
  ∃ sv', St w' p mb most sv' L' ∧ Fr (fun k => k = p ∨ k = mb ∨ sv.ownBlock = some k) w w' ∧ (∀ k, sv'.ownBlock = some k → sv.ownBlock = some k ∨ w.heap.size ≤ k)

theorem Stepped.same {w w' : World} {p mb : Nat} {most : Int} {sv : Value} {L : List Ent} (h : St w p mb most sv L) (hf : Fr0 w w') : Stepped w w' p mb most sv L :=
  ⟨sv, h.kept0 hf, hf.fr, fun _ h => .inl h⟩

/-- Behind calls that only made memory. -/
theorem Stepped.before {w w1 w' : World} {p mb : Nat} {most : Int} {sv : Value} {L' : List Ent} (h0 : Fr0 w w1) (h : Stepped w1 w' p mb most sv L') : Stepped w w' p mb most sv L' := by
  obtain ⟨sv', h1, h2, h3⟩ := h
  exact ⟨sv', h1, Fr.trans h0.fr h2 (fun _ h _ => h), fun k hk => (h3 k hk).elim .inl (fun h => .inr (by have := h0.size'; omega))⟩

theorem Stepped.after {w w1 w' : World} {p mb : Nat} {most : Int} {sv : Value} {L' : List Ent} (h : Stepped w w1 p mb most sv L') (h0 : Fr0 w1 w') : Stepped w w' p mb most sv L' := by
  obtain ⟨sv', h1, h2, h3⟩ := h
  exact ⟨sv', h1.kept0 h0, Fr.trans h2 h0 (fun _ h _ => h.elim), h3⟩

theorem Stepped.trans {w w1 w' : World} {p mb : Nat} {most : Int} {sv : Value} {L1 L2 : List Ent} (h : Stepped w w1 p mb most sv L1) (k : ∀ sv1, St w1 p mb most sv1 L1 → Stepped w1 w' p mb most sv1 L2) : Stepped w w' p mb most sv L2 := by
  obtain ⟨sv1, h1, h2, h3⟩ := h
  obtain ⟨sv2, k1, k2, k3⟩ := k sv1 h1
  refine ⟨sv2, k1, Fr.trans h2 k2 ?_, ?_⟩
  · rintro i (hi | hi | hi) hlt
    · exact .inl hi
    · exact .inr (.inl hi)
    · exact (h3 i hi).elim (fun h => .inr (.inr h)) (fun h => by omega)
  · intro i hi
    rcases k3 i hi with h | h
    · exact h3 i h
    · exact .inr (by have := h2.size; omega)

theorem st_add' {w : World} {p mb : Nat} {most : Int} {sv : Value} {L : List Ent} (hS : St w p mb most sv L) (x : Ent) (hj : ruleIdx x.rule L = none) (hL : L.length < 1048576) :
    Calls Tryz.prog 92 #[.pointer (some ⟨p, 0, none⟩), .agg #[.int .i64 x.rule.kind, .int .u8 x.rule.letter, .int .i64 x.rule.left, .int .i64 x.rule.right, .int .i64 x.rule.times, .int .i64 x.wt.len, .int .i64 x.wt.lines, .int .i64 x.wt.head, .int .i64 x.wt.tail, .int .u64 x.wt.val, .int .u64 x.wt.scale, .int .i64 x.depth, .bool x.even]] w
      fun e w' => e = .returned (.int .i64 ((L.length : Int) + 1)) ∧ Stepped w w' p mb most sv (L ++ [x]) :=
  st_add hS x hj hL

set_option maxRecDepth 100000 in
set_option maxHeartbeats 1000000 in
theorem st_Letter_some {w : World} {p mb : Nat} {most : Int} {sv : Value} {L : List Ent} (hS : St w p mb most sv L) (b : Int) (h0 : 0 ≤ b) (h1 : b < 256) (j : Nat) (hj : ruleIdx ⟨1, b, 0, 0, 0⟩ L = some j) :
    Calls Tryz.prog 55 #[.pointer (some ⟨p, 0, none⟩), .int .u8 b] w fun e w' => e = .returned (.tuple #[.int .i64 ((j : Int) + 1), .nilIface]) ∧ Fr0 w w' := by
  have CF := Lib.hid (fun w' (hf : Fr0 w w') => st_find_some (hS.kept0 hf) ⟨1, b, 0, 0, 0⟩ j hj)
  clear hS hj
  go_enter Tryz.func55, Tryz.ntmps55
  go_wp2_with fail
  refine (CF.out _ ((Fr0.refl w).alloc _)).mono ?_
  rintro e w1 ⟨rfl, hf1⟩
  have hj1 : ((j : Int) + 1 != 0) = true := by simp; omega
  go_wp2_with fail
  go_ret2
  exact ⟨rfl, ((Fr0.refl w).alloc _).trans hf1⟩

set_option maxRecDepth 100000 in
set_option maxHeartbeats 1000000 in
theorem st_Letter_none {w : World} {p mb : Nat} {most : Int} {sv : Value} {L : List Ent} (hS : St w p mb most sv L) (b : Int) (h0 : 0 ≤ b) (h1 : b < 256) (hj : ruleIdx (letterEnt b).rule L = none) (hm : (L.length : Int) < most) (hL : L.length < 1048576) :
    Calls Tryz.prog 55 #[.pointer (some ⟨p, 0, none⟩), .int .u8 b] w fun e w' => e = .returned (.tuple #[.int .i64 ((L.length : Int) + 1), .nilIface]) ∧ Stepped w w' p mb most sv (L ++ [letterEnt b]) := by
  have CF := Lib.hid (fun w' (hf : Fr0 w w') => st_find_none (hS.kept0 hf) ⟨1, b, 0, 0, 0⟩ hj hm)
  have cl : ∀ w', Calls Tryz.prog 93 #[.int .u8 b] w' fun e w'' => e = .returned (.agg #[.int .i64 (Wt.letter b).len, .int .i64 (Wt.letter b).lines, .int .i64 (Wt.letter b).head, .int .i64 (Wt.letter b).tail, .int .u64 (Wt.letter b).val, .int .u64 (Wt.letter b).scale]) ∧ Fr0 w' w'' := fun w' => wt_Letter b w' h0 h1
  have hx : letterEnt b = ⟨⟨1, b, 0, 0, 0⟩, Wt.letter b, 0, true⟩ := rfl
  rw [hx]
  generalize Wt.letter b = t at *
  have CL := Lib.hid cl
  have CA := Lib.hid (fun w' (hf : Fr0 w w') => st_add' (hS.kept0 hf) ⟨⟨1, b, 0, 0, 0⟩, t, 0, true⟩ hj hL)
  have HS := Lib.hid hS
  have lp := lt_of_block hS.ptr
  have lm := lt_of_block hS.mp
  have lv : ∀ k, sv.ownBlock = some k → k < w.heap.size := fun k hk => (hS.own.lt k hk).2
  have LV := Lib.hid lv
  clear hS hj lv cl hx
  go_enter Tryz.func55, Tryz.ntmps55
  go_wp2_with fail
  refine (CF.out _ ((Fr0.refl w).alloc _)).mono ?_
  rintro e w1 ⟨rfl, hf1⟩
  have hr1 := hf1.kept (b := w.heap.size) (alloc_at _ _ _ rfl)
  have hW1 : Fr0 w w1 := ((Fr0.refl w).alloc _).trans hf1
  have d0 : w1.cell? ⟨w.heap.size, 0, none⟩ = some (.int .i64 1) := by rw [cell_of_block hr1]; rfl
  have d1 : w1.cell? ⟨w.heap.size, 1, none⟩ = some (.int .u8 b) := by rw [cell_of_block hr1]; rfl
  have d2 : w1.cell? ⟨w.heap.size, 2, none⟩ = some (.int .i64 0) := by rw [cell_of_block hr1]; rfl
  have d3 : w1.cell? ⟨w.heap.size, 3, none⟩ = some (.int .i64 0) := by rw [cell_of_block hr1]; rfl
  have d4 : w1.cell? ⟨w.heap.size, 4, none⟩ = some (.int .i64 0) := by rw [cell_of_block hr1]; rfl
  have l1 := lt_of_block hr1
  clear hf1 CF hr1
  go_wp2_with fail
  generalize hE : w.heap.size = E at *
  have HE := Lib.hid hE
  clear hE
  go_region_held3 (fun w' => w'.cell? ⟨E, 0, none⟩ = some (.int .i64 1) ∧ w'.cell? ⟨E, 1, none⟩ = some (.int .u8 b) ∧ w'.cell? ⟨E, 2, none⟩ = some (.int .i64 0) ∧ w'.cell? ⟨E, 3, none⟩ = some (.int .i64 0) ∧ w'.cell? ⟨E, 4, none⟩ = some (.int .i64 0))
    (first | (go_keep; done) | ((try dsimp only); (repeat' apply And.intro); all_goals (go_split_ands; first | (rw [hfL.cell _ _ (by simp; omega)]; assumption) | (rw [Fr.cell hfA _ (by dsimp only; omega) hnE]; assumption))))
    (first | (go_at_call 93; refine (CL.out _).mono ?_; rintro e w2 ⟨rfl, hfL⟩; have l2 : E < w2.heap.size := (by have hq := hfL.size'; (try simp at hq); omega); have hW2 : Fr0 w w2 := hW1.drew.trans hfL) | (go_at_call 92; refine (CA.out _ hW2).mono ?_; rintro e w3 ⟨rfl, hst⟩; obtain ⟨sv3, hS3, hfA, hv3⟩ := hst; have hnE : ¬ (E = p ∨ E = mb ∨ sv.ownBlock = some E) := (by rintro (h | h | h); omega; omega; have := LV.out E h; omega)))
  go_wp2_with fail
  go_ret2
  exact ⟨rfl, (show Stepped w2 w3 p mb most sv _ from ⟨sv3, hS3, hfA, hv3⟩).before hW2⟩

end Go.Proofs.YtclpndigmidjkaaGreat

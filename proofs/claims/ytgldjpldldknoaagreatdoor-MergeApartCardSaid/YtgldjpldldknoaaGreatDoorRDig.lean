/- The walks of packages digest and weight. -/
import Derived.Test.YtgldjpldldknoaaGreatDoorRBase
import Derived.StillTailTactics
import Derived.Deep.QuietTactic
import Derived.BigQuiet
import Derived.Deep.RegionHeld3
set_option linter.unusedSimpArgs false
set_option linter.unusedVariables false
namespace Go.Proofs.YtgldjpldldknoaaGreatDoor
open Go.RowKit
def Fr0 (w w' : World) : Prop := Fr (fun _ => False) w w'
theorem Fr0.refl (w : World) : Fr0 w w := Fr.refl _ w
theorem Fr0.trans {a b c : World} (h : Fr0 a b) (k : Fr0 b c) : Fr0 a c := Fr.trans h k (fun _ h _ => h)
theorem Fr0.drew {a w : World} (h : Fr0 a w) : Fr0 a w.drew := Fr.drew h
theorem Fr0.drewN {a w : World} (h : Fr0 a w) (n : Nat) : Fr0 a (w.drewN n) := Fr.drewN h n
theorem Fr0.alloc {a w : World} (h : Fr0 a w) (o : Obj) : Fr0 a (w.alloc o) := Fr.alloc h o
theorem Fr0.setCell {a w : World} (h : Fr0 a w) (p : Addr) (u : Value) (hp : a.heap.size ≤ p.block) : Fr0 a (w.setCell p u) := Fr.setCell h p u (fun h => by omega)
theorem Fr0.kept {w w' : World} (h : Fr0 w w') {b : Nat} {o : Obj} (hb : w.heap[b]? = some o) : w'.heap[b]? = some o := Fr.kept h hb id
theorem Fr0.cell {w w' : World} (h : Fr0 w w') (b o : Nat) (hp : b < w.heap.size) : w'.cell? ⟨b, o, none⟩ = w.cell? ⟨b, o, none⟩ := Fr.cell h _ hp id
theorem Fr0.frozen {w w' : World} (h : Fr0 w w') (b o : Nat) (hp : b < w.heap.size) : w'.frozen? ⟨b, o, none⟩ = w.frozen? ⟨b, o, none⟩ := World.frozen?_of_block (Fr.block h _ hp id)
theorem Fr0.owns {w w' : World} (h : Fr0 w w') {base : Nat} {e : TypeId} {size : Nat} {v : Value} {n : Nat} {xs : List Value} (ho : w.ownsRow base e size v n xs) : w'.ownsRow base e size v n xs :=
 Fr.owns h ho (fun _ _ => id)
theorem Fr0.below {w w' : World} (h : Fr0 w w') : Below w.heap.size w w' := Fr.below h (Nat.le_refl _) (fun _ h => h.elim)
theorem Fr0.fr {S : Nat → Prop} {w w' : World} (h : Fr0 w w') : Fr S w w' := Fr.mono h (fun _ h _ => h.elim)
theorem Fr0.cells {w w' : World} (h : Fr0 w w') : (∀ b o, b < w.heap.size → w'.cell? ⟨b, o, none⟩ = w.cell? ⟨b, o, none⟩) ∧ (∀ b o, b < w.heap.size → w'.frozen? ⟨b, o, none⟩ = w.frozen? ⟨b, o, none⟩) :=
 ⟨fun b o hb => h.cell b o hb, fun b o hb => h.frozen b o hb⟩
theorem calls_sym {P : Program} {f : FuncId} {args : Array Value} {w : World} {v : Value} (h : Calls P f args w fun e w' => e = .returned v ∧ w = w') : Calls P f args w fun e w' => e = .returned v ∧ w' = w :=
 h.mono fun _ _ ⟨a, b⟩ => ⟨a, b.symm⟩
theorem region_still_tail {P : Program} {id : Nat} {Q : Exit → Act → World → Prop} {a : Act} {w : World} {l : List Oper} (n : Nat) (hm : P.follows .mixedOrders = true) (hB : Region.lexTailB .any l.toArray n = true)
    (h : wpStill P l.toArray w.drew (fun a' => wpList P l.toArray Q (l.drop n) a' w.drew) (l.take n) a) : (Code.region id l.toArray true).wp P Q a w := wp_region_still_tail n hm hB h
set_option maxHeartbeats 400000 in
theorem dig_Unit (w : World) :
    Calls Tryz.prog 62 #[] w fun e w' => e = .returned (.agg #[.int .u64 0, .int .u64 1]) ∧ Fr0 w w' := by
 go_enter Tryz.func62, Tryz.ntmps62
 go_wp2
 exact bodyPost_ret (v := .agg #[.int .u64 0, .int .u64 1]) (by simp [results, Tryz.results62, go_sem]) rfl ⟨rfl, by repeat (first | exact Fr0.refl _ | refine Fr0.alloc ?_ _ | refine Fr0.drew ?_)⟩
set_option maxHeartbeats 400000 in
theorem dig_Letter (b : Int) (w : World) (h0 : 0 ≤ b) (h1 : b < 256) :
    Calls Tryz.prog 71 #[.int .u8 b] w fun e w' => e = .returned (.agg #[.int .u64 (b + 1), .int .u64 1103515245]) ∧ Fr0 w w' := by
 go_enter Tryz.func71, Tryz.ntmps71
 go_wp2
 exact bodyPost_ret (v := .agg #[.int .u64 (b + 1), .int .u64 1103515245]) (by simp [results, Tryz.results71, go_sem]) rfl ⟨rfl, by repeat (first | exact Fr0.refl _ | refine Fr0.alloc ?_ _ | refine Fr0.drew ?_)⟩
set_option maxRecDepth 100000 in
set_option maxHeartbeats 800000 in
theorem dig_Join (v1 s1 v2 s2 : Int) (w : World) (a1 : 0 ≤ v1) (a2 : v1 < 18446744073709551616) (a3 : 0 ≤ s1) (a4 : s1 < 18446744073709551616) (b1 : 0 ≤ v2) (b2 : v2 < 18446744073709551616) (b3 : 0 ≤ s2) (b4 : s2 < 18446744073709551616) :
    Calls Tryz.prog 73 #[.agg #[.int .u64 v1, .int .u64 s1], .agg #[.int .u64 v2, .int .u64 s2]] w fun e w' => e = .returned (.agg #[.int .u64 ((v1 * s2 % PP + v2) % PP), .int .u64 (s1 * s2 % PP)]) ∧ Fr0 w w' := by
 have h1 := pp_lt (v1 * s2)
 have c1 := fun w => calls_sym (mod_Mul v1 s2 a1 a2 b3 b4 w)
 have c3 := fun w => calls_sym (mod_Mul s1 s2 a3 a4 b3 b4 w)
 generalize v1 * s2 % PP = x at *
 generalize s1 * s2 % PP = y at *
 have c2 := fun w => calls_sym (mod_Add x v2 h1.1 (by omega) b1 b2 w)
 generalize (x + v2) % PP = z at *
 have C1 := Lib.hid c1
 have C2 := Lib.hid c2
 have C3 := Lib.hid c3
 clear c1 c2 c3 a1 a2 a3 a4 b1 b2 b3 b4 h1
 go_enter Tryz.func73, Tryz.ntmps73
 go_wp2_with fail
 refine region_still_tail 13 (by kernel_rfl) (by kernel_rfl) ?_
 simp only [List.take_succ_cons, List.take_zero, List.drop_succ_cons, List.drop_zero]
 iterate 4 still_step
 still_call (C1.out _)
 iterate 2 still_step
 still_call (C2.out _)
 iterate 4 still_step
 still_call (C3.out _)
 refine wpStill_nil ?_
 go_wp2_with fail
 exact bodyPost_ret (v := .agg #[.int .u64 z, .int .u64 y]) (by simp [results, Tryz.results73, go_sem]) rfl ⟨rfl, by repeat (first | exact Fr0.refl _ | refine Fr0.alloc ?_ _ | refine Fr0.drew ?_ | refine Fr0.setCell ?_ _ _ (by simp; try omega))⟩
end Go.Proofs.YtgldjpldldknoaaGreatDoor
/- The walks of digest.Repeat and of package weight. -/
set_option linter.unusedSimpArgs false
set_option linter.unusedVariables false
namespace Go.Proofs.YtgldjpldldknoaaGreatDoor
open Go.RowKit
theorem region_still {P : Program} {id : Nat} {Q : Exit → Act → World → Prop} {a : Act} {w : World} {l : List Oper} (hm : P.follows .mixedOrders = true) (hB : Region.lexB .any l.toArray = true)
    (h : wpStill P l.toArray w.drew (fun a' => Q .normal a' w.drew) l a) : (Code.region id l.toArray true).wp P Q a w := wp_region_still_lit hm hB h
theorem wrap_u64_id (x : Int) (h0 : 0 ≤ x) (h1 : x < 18446744073709551616) : IntKind.u64.wrap x = x := by rw [IntKind.wrap_u64]; omega
set_option maxHeartbeats 400000 in
theorem wt_Unit (w : World) :
    Calls Tryz.prog 46 #[] w fun e w' => e = .returned (.agg #[.int .i64 0, .int .i64 0, .int .i64 0, .int .i64 0, .int .u64 0, .int .u64 1]) ∧ Fr0 w w' := by
 go_enter Tryz.func46, Tryz.ntmps46
 go_wp2_with fail
 refine (dig_Unit _).mono ?_
 rintro e w1 ⟨rfl, hf⟩
 obtain ⟨hc, hz⟩ := hf.cells
 have hs := hf.size
 simp at hs
 go_wp2_with fail
 exact bodyPost_ret (v := .agg #[.int .i64 0, .int .i64 0, .int .i64 0, .int .i64 0, .int .u64 0, .int .u64 1]) (by simp [results, Tryz.results46, go_sem, hc, hz]) rfl
  ⟨rfl, by (repeat' (first | (with_reducible exact Fr0.refl _) | (with_reducible refine Fr0.setCell ?_ _ _ ?_) | (with_reducible refine Fr0.alloc ?_ _) | (with_reducible refine Fr0.drew ?_) | (with_reducible refine Fr0.trans ?_ hf))) <;> first | omega | (dsimp only; omega) | (simp; done) | (simp; omega)⟩
set_option maxHeartbeats 400000 in
theorem wt_Letter (b : Int) (w : World) (h0 : 0 ≤ b) (h1 : b < 256) :
    Calls Tryz.prog 59 #[.int .u8 b] w fun e w' => e = .returned (.agg (Wt.letter b).vals.toArray) ∧ Fr0 w w' := by
 by_cases hb : b = 10
 · subst hb
   go_enter Tryz.func59, Tryz.ntmps59
   go_wp2_with fail
   refine (dig_Letter _ _ (by omega) (by omega)).mono ?_
   rintro e w1 ⟨rfl, hf⟩
   obtain ⟨hc, hz⟩ := hf.cells
   have hs := hf.size
   simp at hs
   go_wp2_with fail
   exact bodyPost_ret (v := .agg (Wt.letter 10).vals.toArray) (by simp [results, Tryz.results59, go_sem, hc, hz, Wt.letter, Wt.vals]) rfl
    ⟨rfl, by (repeat' (first | (with_reducible exact Fr0.refl _) | (with_reducible refine Fr0.setCell ?_ _ _ ?_) | (with_reducible refine Fr0.alloc ?_ _) | (with_reducible refine Fr0.drew ?_) | (with_reducible refine Fr0.trans ?_ hf))) <;> first | omega | (dsimp only; omega) | (simp; done) | (simp; omega)⟩
 · have hb' : (b == 10) = false := by simpa using hb
   have HB := Lib.hid hb
   clear hb
   go_enter Tryz.func59, Tryz.ntmps59
   go_wp2_with fail
   refine (dig_Letter _ _ (by omega) (by omega)).mono ?_
   rintro e w1 ⟨rfl, hf⟩
   obtain ⟨hc, hz⟩ := hf.cells
   have hs := hf.size
   simp at hs
   go_wp2_with fail
   exact bodyPost_ret (v := .agg (Wt.letter b).vals.toArray) (by simp [results, Tryz.results59, go_sem, hc, hz, Wt.letter, Wt.vals, HB.out]) rfl
    ⟨rfl, by (repeat' (first | (with_reducible exact Fr0.refl _) | (with_reducible refine Fr0.setCell ?_ _ _ ?_) | (with_reducible refine Fr0.alloc ?_ _) | (with_reducible refine Fr0.drew ?_) | (with_reducible refine Fr0.trans ?_ hf))) <;> first | omega | (dsimp only; omega) | (simp; done) | (simp; omega)⟩
set_option maxRecDepth 100000 in
set_option maxHeartbeats 1000000 in
theorem wt_Valid_one (l v s : Int) (w : World) (h0 : 0 ≤ l) (h1 : l ≤ 1152921504606846976) (hv0 : 0 ≤ v) (hv1 : v < 2305843009213693951) (hl : l = 0 → v = 0) (hs : s = 1103515245 ^ l.toNat % PP) :
    Calls Tryz.prog 72 #[.agg #[.int .i64 l, .int .i64 0, .int .i64 l, .int .i64 l, .int .u64 v, .int .u64 s]] w fun e w' => e = .returned (.bool true) ∧ Fr0 w w' := by
 have cp := fun w => calls_sym (mod_PowI 1103515245 l (by omega) (by omega) h0 (by omega) w)
 rw [← hs] at cp
 have CP := Lib.hid cp
 clear cp hs
 by_cases hz : l = 0
 · obtain rfl := hl hz
   subst hz
   go_enter Tryz.func72, Tryz.ntmps72
   go_wp2_with (go_at_call 44; refine (len_Valid_yes _ _ (by omega) (by omega)).mono ?_; rintro e w' ⟨rfl, rfl⟩)
   refine region_still (by kernel_rfl) (by kernel_rfl) ?_
   iterate 6 still_step
   still_call (CP.out _)
   iterate 2 still_step
   refine wpStill_nil ?_
   go_wp2_with fail
   go_ret
   exact ⟨by simp, by repeat (first | exact Fr0.refl _ | refine Fr0.alloc ?_ _ | refine Fr0.drew ?_)⟩
 · have hz' : (l == 0) = false := by simpa using hz
   clear hl hz
   go_enter Tryz.func72, Tryz.ntmps72
   go_wp2_with (go_at_call 44; refine (len_Valid_yes _ _ (by omega) (by omega)).mono ?_; rintro e w' ⟨rfl, rfl⟩)
   have hwr := wrap_u64_id l h0 (by omega)
   refine region_still (by kernel_rfl) (by kernel_rfl) ?_
   iterate 6 still_step
   still_call (CP.out _)
   iterate 2 still_step
   refine wpStill_nil ?_
   clear hwr
   go_wp2_with fail
   go_ret
   exact ⟨by simp, by repeat (first | exact Fr0.refl _ | refine Fr0.alloc ?_ _ | refine Fr0.drew ?_)⟩
end Go.Proofs.YtgldjpldldknoaaGreatDoor

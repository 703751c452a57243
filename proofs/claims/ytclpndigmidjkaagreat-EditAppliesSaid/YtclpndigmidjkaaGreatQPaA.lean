/- The walks of patch.applied and patch.Apply. -/
import Derived.Test.YtclpndigmidjkaaGreatQL37a
set_option linter.unusedSimpArgs false
set_option linter.unusedVariables false
namespace Go.Proofs.YtclpndigmidjkaaGreat
open Go.RowKit

theorem one_chg (w : World) (id : Int) (T : TypeId) : ChgsAt (w.alloc (.cells #[.int .i64 0, .int .i64 0, .int .i64 id] T (0, 0))) (some ⟨w.heap.size, 0, none⟩) [⟨0, 0, id⟩] := by
  intro i hi
  have hb := alloc_at w (.cells #[.int .i64 0, .int .i64 0, .int .i64 id] T (0, 0)) _ rfl
  match i, hi with
  | 0, _ => exact ⟨_, 0, rfl, lt_of_block hb, by rw [cell_of_block hb]; rfl, by rw [cell_of_block hb]; rfl, by rw [cell_of_block hb]; rfl⟩

theorem sto_balanced_one {B : Nat} {w : World} {p mb : Nat} {most : Int} {L : List Ent} (hS : Sto B w p mb most L) (id : Int) (hk : isKnown L id) (he : (entAt L id).even = true) (T : TypeId) (cap : Nat) :
    Calls Tryz.prog 63 #[.pointer (some ⟨p, 0, none⟩), .slice (some ⟨w.heap.size, 0, none⟩) 1 cap] (w.alloc (.cells #[.int .i64 0, .int .i64 0, .int .i64 id] T (0, 0))) fun e w' => e = .returned .nilIface ∧ Fr0 (w.alloc (.cells #[.int .i64 0, .int .i64 0, .int .i64 id] T (0, 0))) w' := by
  obtain ⟨sv, hS', _⟩ := hS
  exact pat_balanced_ok (hS'.kept0 ((Fr0.refl w).alloc _)) _ cap [⟨0, 0, id⟩] (one_chg w id T) (by simp) (fun c hc => by simp at hc; subst hc; exact ⟨hk, he⟩)

set_option maxRecDepth 100000 in
set_option maxHeartbeats 1000000 in
theorem pat_applied {B : Nat} {w : World} {p mb : Nat} {most : Int} {L : List Ent} (hS : Sto B w p mb most L) {id : Int} (hk : isKnown L id) (he : (entAt L id).even = true) (T : Int) (hT : (entAt L id).wt.len = T) (pv : Value) (n : Int) (ev : Value)
    (hL : ∀ W, Fr0 w W → Calls Tryz.prog 18 #[.pointer (some ⟨p, 0, none⟩), .int .i64 T, pv] W fun e w' => e = .returned (.tuple #[.int .i64 n, ev]) ∧ Fr0 W w') :
    Calls Tryz.prog 87 #[.pointer (some ⟨p, 0, none⟩), .int .i64 id, pv] w fun e w' => e = .returned (.tuple #[.int .i64 n, ev]) ∧ Fr0 w w' := by
  have CW := Lib.hid (sto_Weight hS id hk)
  generalize hx : (entAt L id).wt = x at *
  subst hT
  have CB := Lib.hid (fun W (hW : Fr0 w W) => sto_balanced_one (hS.kept0 hW) id hk he 41 1)
  have CL := Lib.hid hL
  clear hS hk he hL hx
  go_enter Tryz.func87, Tryz.ntmps87
  go_wp2_with fail
  refine CW.out.mono ?_
  rintro e w1 ⟨rfl, f1⟩
  have F1 := f1.alloc (.cells #[.int .i64 x.len, .int .i64 x.lines, .int .i64 x.head, .int .i64 x.tail, .int .u64 x.val, .int .u64 x.scale] 157 (0, 0))
  have hx1 := alloc_at w1 (.cells #[.int .i64 x.len, .int .i64 x.lines, .int .i64 x.head, .int .i64 x.tail, .int .u64 x.val, .int .u64 x.scale] 157 (0, 0)) _ rfl
  clear f1 CW
  have CB1 := Lib.hid (CB.out _ F1)
  rw [show (w1.alloc (.cells #[.int .i64 x.len, .int .i64 x.lines, .int .i64 x.head, .int .i64 x.tail, .int .u64 x.val, .int .u64 x.scale] 157 (0, 0))).heap.size = w1.heap.size + 1 by simp] at CB1
  clear CB
  go_wp2_with fail
  (with_reducible refine CB1.out.mono ?_)
  rintro e w2 ⟨rfl, f2⟩
  have hx2 := f2.kept (((Fr0.refl _).alloc (.cells #[.int .i64 0, .int .i64 0, .int .i64 id] 41 (0, 0))).kept hx1)
  have F2 := (F1.alloc _).trans f2
  have cx : w2.cell? ⟨w1.heap.size, 0, none⟩ = some (.int .i64 x.len) := by rw [cell_of_block hx2]; rfl
  have lx := lt_of_block hx2
  clear hx1 hx2 f2 CB1 F1
  go_wp2_with fail
  (with_reducible refine (CL.out _ F2).mono ?_)
  rintro e w3 ⟨rfl, f3⟩
  go_wp2_with fail
  go_ret2
  exact ⟨rfl, F2.trans f3⟩

set_option maxRecDepth 100000 in
set_option maxHeartbeats 1000000 in
theorem pat_Apply_err {w : World} {p : Nat} (id : Int) (pv : Value) (n m : Int) (hK : Calls Tryz.prog 87 #[.pointer (some ⟨p, 0, none⟩), .int .i64 id, pv] w fun e w' => e = .returned (.tuple #[.int .i64 m, .iface 52 (.int .i64 n)]) ∧ Fr0 w w') :
    Calls Tryz.prog 51 #[.pointer (some ⟨p, 0, none⟩), .int .i64 id, pv] w fun e w' => e = .returned (.tuple #[.int .i64 0, .iface 52 (.int .i64 n)]) ∧ Fr0 w w' := by
  have CK := Lib.hid hK
  clear hK
  go_enter Tryz.func51, Tryz.ntmps51
  go_wp2_with fail
  refine CK.out.mono ?_
  rintro e w1 ⟨rfl, hf1⟩
  go_wp2_with fail
  go_ret2
  exact ⟨rfl, hf1⟩

theorem owns_low {w : World} {base base' : Nat} {e : TypeId} {size n : Nat} {v : Value} {xs : List Value} (h : w.ownsRow base e size v n xs) (hb : base' ≤ base) : w.ownsRow base' e size v n xs := by
  refine ⟨h.1, ?_⟩
  rcases h.2 with h1 | ⟨g, cap, cur, h1, h2, r⟩
  · exact .inl h1
  · exact .inr ⟨g, cap, cur, h1, by omega, r⟩

/-- A cell of an owned row is written. -/
theorem owns_set {w : World} {base : Nat} {e : TypeId} {size n g cap : Nat} {xs : List Value} (h : w.ownsRow base e size (.slice (some ⟨g, 0, none⟩) n cap) n xs) (k : Nat) (u : Value) : (w.setCell ⟨g, k, none⟩ u).ownsRow base e size (.slice (some ⟨g, 0, none⟩) n cap) n (xs.set k u) := by
  refine ⟨by rw [List.length_set]; exact h.1, ?_⟩
  rcases h.2 with ⟨h1, _⟩ | ⟨g', cap', cur, h1, h2, h3, h4, h5, h6, h7⟩
  · cases h1
  · cases h1
    refine .inr ⟨g, cap, cur.setIfInBounds k u, rfl, h2, setCell_block h3 k u, h4, h5, by rw [Array.size_setIfInBounds]; exact h6, ?_⟩
    rw [Array.toList_setIfInBounds, ← h7, List.take_set]

theorem Sto.set {B : Nat} {w : World} {p mb : Nat} {most : Int} {L : List Ent} (hS : Sto B w p mb most L) {base : Nat} {T : TypeId} {size n g cap : Nat} {xs : List Value} (ho : w.ownsRow base T size (.slice (some ⟨g, 0, none⟩) n cap) n xs) (h1 : T ≠ 121) (h2 : T ≠ 183) (k : Nat) (u : Value) :
    Sto B (w.setCell ⟨g, k, none⟩ u) p mb most L := by
  obtain ⟨sv, hS, q⟩ := hS
  obtain ⟨cur, hc⟩ := owns_block ho (k := g) rfl
  refine ⟨sv, hS.kept (S := fun j => j = g) ((Fr.refl _ w).setCell _ _ (fun _ => rfl)) ?_ ?_ ?_, q⟩
  · exact ne_of_types hS.ptr hc (fun e => h1 e.symm)
  · exact ne_of_map hS.mp hc
  · intro j hj
    obtain ⟨cur2, hc2⟩ := owns_block hS.own hj
    exact ne_of_types hc2 hc (fun e => h2 e.symm)

theorem Kp.setCell {B mb : Nat} {w0 w : World} (h : Kp B mb w0 w) (a : Addr) (u : Value) (ha : w0.heap.size ≤ a.block) : Kp B mb w0 (w.setCell a u) := by
  have key : ∀ k, k < w0.heap.size → (w.setCell a u).heap[k]? = w.heap[k]? := fun k hk => setCell_other a u (by omega)
  refine ⟨h.os, h.tape, h.output, by simpa [World.setCell] using h.size, fun k h1 h2 => (key k h2).trans (h.low k h1 h2), fun k cs t f e n1 n2 => ?_, fun k es n e ne => ?_⟩
  · rw [key k (lt_of_block e)]; exact h.cells k cs t f e n1 n2
  · rw [key k (lt_of_block e)]; exact h.maps k es n e ne

theorem ats_take (ps : List PC) (k : Nat) (h : k < ps.length) : ats (ps.take (k + 1)) = ats (ps.take k) ++ [ps[k].at_, ps[k].at_ + ps[k].n] := by
  rw [List.take_succ_eq_append_getElem h, ats_snoc]

theorem validP_get {T : Int} : ∀ (ps : List PC) (last : Int), validP T last ps = true → ∀ (i : Nat) (h : i < ps.length), 0 ≤ ps[i].at_ ∧ 0 ≤ ps[i].n ∧ ps[i].at_ + ps[i].n ≤ T
  | c :: r, last, h, 0, _ => by
    unfold validP at h
    rw [Bool.and_eq_true] at h
    obtain ⟨t1, t2, t3, t4, t5⟩ := fitP_true h.1
    exact ⟨t1, t2, t3⟩
  | c :: r, last, h, i + 1, hi => by
    unfold validP at h
    rw [Bool.and_eq_true] at h
    exact validP_get r _ h.2 i (by simpa using hi)

end Go.Proofs.YtclpndigmidjkaaGreat

/- The walks of patch.change and patch.Of. -/
import Derived.Test.YtclpndigmidjkaaGreatQPe0
import Derived.Test.YtclpndigmidjkaaGreatQCmp
set_option linter.unusedSimpArgs false
set_option linter.unusedVariables false
namespace Go.Proofs.YtclpndigmidjkaaGreat
open Go.RowKit

theorem cells5w {w : World} {b : Nat} {x0 x1 x2 x3 x4 : Value} {t : TypeId} (h : w.heap[b]? = some (.cells #[x0, x1, x2, x3, x4] t (0, 0))) :
    w.cell? ⟨b, 0, none⟩ = some x0 ∧ w.cell? ⟨b, 1, none⟩ = some x1 ∧ w.cell? ⟨b, 2, none⟩ = some x2 ∧ w.cell? ⟨b, 3, none⟩ = some x3 ∧ w.cell? ⟨b, 4, none⟩ = some x4 ∧ b < w.heap.size :=
  ⟨by rw [cell_of_block h]; rfl, by rw [cell_of_block h]; rfl, by rw [cell_of_block h]; rfl, by rw [cell_of_block h]; rfl, by rw [cell_of_block h]; rfl, lt_of_block h⟩

theorem sto_unknown {B : Nat} {w : World} {p mb : Nat} {most : Int} {L : List Ent} (hS : Sto B w p mb most L) {id : Int} (hk : isKnown L id) :
    Calls Tryz.prog 61 #[.pointer (some ⟨p, 0, none⟩), .int .i64 id] w fun e w' => e = .returned (.bool false) ∧ w = w' := by
  obtain ⟨sv, hS', _⟩ := hS
  exact patch_unknown hS' id false (by obtain ⟨a1, a2⟩ := hk; symm; simp; omega)

set_option maxRecDepth 100000 in
set_option maxHeartbeats 1000000 in
theorem pat_change_form {B : Nat} {w : World} {p mb : Nat} {most : Int} {L : List Ent} (hS : Sto B w p mb most L) (hO : SOk L) (hD : DOk L) (len k a n t x : Int) {tx : List Int} {d : Int} (hb : BalZ L x tx d) (hf : (EP.mk k a n t tx).formed = false) :
    Calls Tryz.prog 69 #[.pointer (some ⟨p, 0, none⟩), .int .i64 len, .agg #[.int .i64 k, .int .i64 a, .int .i64 n, .int .i64 t, .int .i64 x]] w fun e w' => e = .returned (.tuple #[.agg #[.int .i64 0, .int .i64 0, .int .i64 0], .int .i64 0, .iface 52 (.int .i64 4)]) ∧ Fr0 w w' := by
  have CU := Lib.hid (fun W (hW : Fr0 w W) => sto_unknown (hS.kept0 hW) hb.known)
  have hx0 := hb.nil_iff hD hO
  have hno : ¬ (t = 0 ∧ ((k = 1 ∧ n = 0) ∨ (k = 2 ∧ x = 0) ∨ k = 3)) := by
    intro h
    have : (EP.mk k a n t tx).formed = true := decide_eq_true ⟨h.1, by
      rcases h.2 with h | h | h
      · exact .inl h
      · exact .inr (.inl ⟨h.1, hx0.1 h.2⟩)
      · exact .inr (.inr h)⟩
    rw [this] at hf
    cases hf
  clear hS hO hD hb hf hx0
  go_enter Tryz.func69, Tryz.ntmps69
  go_wp2_with fail
  refine (CU.out _ (((((Fr0.refl w).alloc _).alloc _).alloc _))).mono ?_
  rintro e w1 ⟨rfl, rfl⟩
  clear CU
  by_cases ht : t = 0
  · have q0 : (t == 0) = true := beq_iff_eq.2 ht
    by_cases k1 : k = 1
    · have q1 : (k == 1) = true := beq_iff_eq.2 k1
      have q2 : (n == 0) = false := beq_eq_false_iff_ne.2 (fun h => hno ⟨ht, .inl ⟨k1, h⟩⟩)
      clear hno ht k1
      go_wp2_with fail
      exact bodyPost_ret (v := .tuple #[.agg #[.int .i64 0, .int .i64 0, .int .i64 0], .int .i64 0, .iface 52 (.int .i64 4)]) (by simp [results, Tryz.results69, go_sem]) rfl ⟨rfl, by repeat (first | exact Fr0.refl _ | refine Fr0.alloc ?_ _ | refine Fr0.drew ?_ | refine Fr0.setCell ?_ _ _ (by simp; try omega))⟩
    · have q1 : (k == 1) = false := beq_eq_false_iff_ne.2 k1
      by_cases k2 : k = 2
      · have q2 : (k == 2) = true := beq_iff_eq.2 k2
        have q3 : (x == 0) = false := beq_eq_false_iff_ne.2 (fun h => hno ⟨ht, .inr (.inl ⟨k2, h⟩)⟩)
        clear hno ht k1 k2
        go_wp2_with fail
        exact bodyPost_ret (v := .tuple #[.agg #[.int .i64 0, .int .i64 0, .int .i64 0], .int .i64 0, .iface 52 (.int .i64 4)]) (by simp [results, Tryz.results69, go_sem]) rfl ⟨rfl, by repeat (first | exact Fr0.refl _ | refine Fr0.alloc ?_ _ | refine Fr0.drew ?_ | refine Fr0.setCell ?_ _ _ (by simp; try omega))⟩
      · have q2 : (k == 2) = false := beq_eq_false_iff_ne.2 k2
        have q3 : (k == 3) = false := beq_eq_false_iff_ne.2 (fun h => hno ⟨ht, .inr (.inr h)⟩)
        clear hno ht k1 k2
        go_wp2_with fail
        exact bodyPost_ret (v := .tuple #[.agg #[.int .i64 0, .int .i64 0, .int .i64 0], .int .i64 0, .iface 52 (.int .i64 4)]) (by simp [results, Tryz.results69, go_sem]) rfl ⟨rfl, by repeat (first | exact Fr0.refl _ | refine Fr0.alloc ?_ _ | refine Fr0.drew ?_ | refine Fr0.setCell ?_ _ _ (by simp; try omega))⟩
  · have q0 : (t == 0) = false := beq_eq_false_iff_ne.2 ht
    clear hno
    by_cases k1 : k = 1
    · have q1 : (k == 1) = true := beq_iff_eq.2 k1
      clear ht k1
      go_wp2_with fail
      exact bodyPost_ret (v := .tuple #[.agg #[.int .i64 0, .int .i64 0, .int .i64 0], .int .i64 0, .iface 52 (.int .i64 4)]) (by simp [results, Tryz.results69, go_sem]) rfl ⟨rfl, by repeat (first | exact Fr0.refl _ | refine Fr0.alloc ?_ _ | refine Fr0.drew ?_ | refine Fr0.setCell ?_ _ _ (by simp; try omega))⟩
    · have q1 : (k == 1) = false := beq_eq_false_iff_ne.2 k1
      by_cases k2 : k = 2
      · have q2 : (k == 2) = true := beq_iff_eq.2 k2
        clear ht k1 k2
        go_wp2_with fail
        exact bodyPost_ret (v := .tuple #[.agg #[.int .i64 0, .int .i64 0, .int .i64 0], .int .i64 0, .iface 52 (.int .i64 4)]) (by simp [results, Tryz.results69, go_sem]) rfl ⟨rfl, by repeat (first | exact Fr0.refl _ | refine Fr0.alloc ?_ _ | refine Fr0.drew ?_ | refine Fr0.setCell ?_ _ _ (by simp; try omega))⟩
      · have q2 : (k == 2) = false := beq_eq_false_iff_ne.2 k2
        by_cases k3 : k = 3
        · have q3 : (k == 3) = true := beq_iff_eq.2 k3
          clear ht k1 k2 k3
          go_wp2_with fail
          exact bodyPost_ret (v := .tuple #[.agg #[.int .i64 0, .int .i64 0, .int .i64 0], .int .i64 0, .iface 52 (.int .i64 4)]) (by simp [results, Tryz.results69, go_sem]) rfl ⟨rfl, by repeat (first | exact Fr0.refl _ | refine Fr0.alloc ?_ _ | refine Fr0.drew ?_ | refine Fr0.setCell ?_ _ _ (by simp; try omega))⟩
        · have q3 : (k == 3) = false := beq_eq_false_iff_ne.2 k3
          clear ht k1 k2 k3
          go_wp2_with fail
          exact bodyPost_ret (v := .tuple #[.agg #[.int .i64 0, .int .i64 0, .int .i64 0], .int .i64 0, .iface 52 (.int .i64 4)]) (by simp [results, Tryz.results69, go_sem]) rfl ⟨rfl, by repeat (first | exact Fr0.refl _ | refine Fr0.alloc ?_ _ | refine Fr0.drew ?_ | refine Fr0.setCell ?_ _ _ (by simp; try omega))⟩

theorem one_chg' (w : World) (a n id : Int) (T : TypeId) : ChgsAt (w.alloc (.cells #[.int .i64 a, .int .i64 n, .int .i64 id] T (0, 0))) (some ⟨w.heap.size, 0, none⟩) [⟨a, n, id⟩] := by
  intro i hi
  have hb := alloc_at w (.cells #[.int .i64 a, .int .i64 n, .int .i64 id] T (0, 0)) _ rfl
  match i, hi with
  | 0, _ => exact ⟨_, 0, rfl, lt_of_block hb, by rw [cell_of_block hb]; rfl, by rw [cell_of_block hb]; rfl, by rw [cell_of_block hb]; rfl⟩

theorem sto_balanced_one' {B : Nat} {w : World} {p mb : Nat} {most : Int} {L : List Ent} (hS : Sto B w p mb most L) (a n id : Int) (hk : isKnown L id) (he : (entAt L id).even = true) (T : TypeId) (cap H : Nat) (hH : w.heap.size = H) :
    Calls Tryz.prog 63 #[.pointer (some ⟨p, 0, none⟩), .slice (some ⟨H, 0, none⟩) 1 cap] (w.alloc (.cells #[.int .i64 a, .int .i64 n, .int .i64 id] T (0, 0))) fun e w' => e = .returned .nilIface ∧ Fr0 (w.alloc (.cells #[.int .i64 a, .int .i64 n, .int .i64 id] T (0, 0))) w' := by
  subst hH
  obtain ⟨sv, hS', _⟩ := hS
  exact pat_balanced_ok (hS'.kept0 ((Fr0.refl w).alloc _)) _ cap [⟨a, n, id⟩] (one_chg' w a n id T) (by simp) (fun c hc => by simp at hc; subst hc; exact ⟨hk, he⟩)

set_option maxRecDepth 100000 in
set_option maxHeartbeats 2000000 in
theorem pat_change_range {B : Nat} {w : World} {p mb : Nat} {most : Int} {L : List Ent} (hS : Sto B w p mb most L) (hO : SOk L) (hD : DOk L) (len k a n t x : Int) {tx : List Int} {d : Int} (hb : BalZ L x tx d) (hf : (EP.mk k a n t tx).formed = true) (hl0 : 0 ≤ len) (hl1 : len ≤ 1152921504606846976) (hr : (EP.mk k a n t tx).fits len = false) :
    Calls Tryz.prog 69 #[.pointer (some ⟨p, 0, none⟩), .int .i64 len, .agg #[.int .i64 k, .int .i64 a, .int .i64 n, .int .i64 t, .int .i64 x]] w fun e w' => e = .returned (.tuple #[.agg #[.int .i64 0, .int .i64 0, .int .i64 0], .int .i64 0, .iface 52 (.int .i64 1)]) ∧ Fr0 w w' := by
  have CU := Lib.hid (fun W (hW : Fr0 w W) => sto_unknown (hS.kept0 hW) hb.known)
  have CB := Lib.hid (fun W (hW : Fr0 w W) H (hH : W.heap.size = H) => sto_balanced_one' (hS.kept0 hW) a n x hb.known hb.even 41 1 H hH)
  have hx0 := hb.nil_iff hD hO
  have hfm : t = 0 ∧ ((k = 1 ∧ n = 0) ∨ (k = 2 ∧ x = 0) ∨ k = 3) := by
    have := of_decide_eq_true hf
    refine ⟨this.1, ?_⟩
    rcases this.2 with h | h | h
    · exact .inl h
    · exact .inr (.inl ⟨h.1, hx0.2 h.2⟩)
    · exact .inr (.inr h)
  obtain ⟨ht, hfm⟩ := hfm
  have q0 : (t == 0) = true := beq_iff_eq.2 ht
  have hno : ¬ (0 ≤ a ∧ 0 ≤ n ∧ a + n ≤ len) := fun h => by
    have e : (EP.mk k a n t tx).fits len = true := decide_eq_true h
    rw [e] at hr
    cases hr
  have CRG := Lib.hid (fun W => len_Range_no a n len W (by omega) hl0 hl1)
  clear hS hO hD hb hf hx0 ht hno hr
  go_enter Tryz.func69, Tryz.ntmps69
  rcases hfm with ⟨k1, h0⟩ | ⟨k2, h0⟩ | k3
  · have q1 : (k == 1) = true := beq_iff_eq.2 k1
    have q2 : (n == 0) = true := beq_iff_eq.2 h0
    clear k1 h0
    go_wp2_with fail
    refine (CU.out _ (((((Fr0.refl w).alloc _).alloc _).alloc _))).mono ?_
    rintro e w1 ⟨rfl, rfl⟩
    go_wp2_with fail
    have FW := ((((Fr0.refl w).alloc (.cells #[.int .i64 k, .int .i64 a, .int .i64 n, .int .i64 t, .int .i64 x] 78 (0, 0))).alloc (.cells #[.int .i64 0, .int .i64 0, .int .i64 0] 41 (0, 0))).alloc (.cells #[.int .i64 a, .int .i64 n, .int .i64 x] 41 (0, 0)))
    have CB2 := Lib.hid (CB.out _ FW (w.heap.size + 1 + 1 + 1) (by simp))
    refine CB2.out.mono ?_
    rintro e w2 ⟨rfl, f2⟩
    have hA2 := f2.kept (alloc_lt _ (.cells #[.int .i64 a, .int .i64 n, .int .i64 x] 41 (0, 0)) _ (by simp <;> omega) |>.trans (alloc3_0 w (.cells #[.int .i64 k, .int .i64 a, .int .i64 n, .int .i64 t, .int .i64 x] 78 (0, 0)) (.cells #[.int .i64 0, .int .i64 0, .int .i64 0] 41 (0, 0)) (.cells #[.int .i64 a, .int .i64 n, .int .i64 x] 41 (0, 0))))
    have hB2 := f2.kept (alloc_lt _ (.cells #[.int .i64 a, .int .i64 n, .int .i64 x] 41 (0, 0)) _ (by simp <;> omega) |>.trans (alloc3_1 w (.cells #[.int .i64 k, .int .i64 a, .int .i64 n, .int .i64 t, .int .i64 x] 78 (0, 0)) (.cells #[.int .i64 0, .int .i64 0, .int .i64 0] 41 (0, 0)) (.cells #[.int .i64 a, .int .i64 n, .int .i64 x] 41 (0, 0))))
    have hC2 := f2.kept (alloc_lt _ (.cells #[.int .i64 a, .int .i64 n, .int .i64 x] 41 (0, 0)) _ (by simp) |>.trans (alloc3_2 w (.cells #[.int .i64 k, .int .i64 a, .int .i64 n, .int .i64 t, .int .i64 x] 78 (0, 0)) (.cells #[.int .i64 0, .int .i64 0, .int .i64 0] 41 (0, 0)) (.cells #[.int .i64 a, .int .i64 n, .int .i64 x] 41 (0, 0))))
    have F2 := (FW.alloc (.cells #[.int .i64 a, .int .i64 n, .int .i64 x] 41 (0, 0))).trans f2
    obtain ⟨a0, a1, a2, a3, a4, la⟩ := cells5w hA2
    obtain ⟨b0, b1, b2, bf, lb⟩ := cells3 hB2
    clear CB CB2 CU FW f2
    go_wp2_with fail
    refine (CRG.out _).mono ?_
    rintro e w' ⟨rfl, rfl⟩
    go_wp2_with fail
    have hZ := setCell_block (setCell_block (setCell_block hB2 0 (.int .i64 0)) 1 (.int .i64 0)) 2 (.int .i64 0)
    obtain ⟨z0, z1, z2, _, _⟩ := cells3 hZ
    exact bodyPost_ret (v := .tuple #[.agg #[.int .i64 0, .int .i64 0, .int .i64 0], .int .i64 0, .iface 52 (.int .i64 1)]) (by simp [results, Tryz.results69, go_sem, z0, z1, z2]) rfl ⟨rfl, by repeat (first | exact F2 | refine Fr0.setCell ?_ _ _ (by simp; try omega))⟩
  · have q1 : (k == 1) = false := beq_eq_false_iff_ne.2 (by omega)
    have q2 : (k == 2) = true := beq_iff_eq.2 k2
    have q3 : (x == 0) = true := beq_iff_eq.2 h0
    clear k2 h0
    go_wp2_with fail
    refine (CU.out _ (((((Fr0.refl w).alloc _).alloc _).alloc _))).mono ?_
    rintro e w1 ⟨rfl, rfl⟩
    go_wp2_with fail
    have FW := ((((Fr0.refl w).alloc (.cells #[.int .i64 k, .int .i64 a, .int .i64 n, .int .i64 t, .int .i64 x] 78 (0, 0))).alloc (.cells #[.int .i64 0, .int .i64 0, .int .i64 0] 41 (0, 0))).alloc (.cells #[.int .i64 a, .int .i64 n, .int .i64 x] 41 (0, 0)))
    have CB2 := Lib.hid (CB.out _ FW (w.heap.size + 1 + 1 + 1) (by simp))
    refine CB2.out.mono ?_
    rintro e w2 ⟨rfl, f2⟩
    have hA2 := f2.kept (alloc_lt _ (.cells #[.int .i64 a, .int .i64 n, .int .i64 x] 41 (0, 0)) _ (by simp <;> omega) |>.trans (alloc3_0 w (.cells #[.int .i64 k, .int .i64 a, .int .i64 n, .int .i64 t, .int .i64 x] 78 (0, 0)) (.cells #[.int .i64 0, .int .i64 0, .int .i64 0] 41 (0, 0)) (.cells #[.int .i64 a, .int .i64 n, .int .i64 x] 41 (0, 0))))
    have hB2 := f2.kept (alloc_lt _ (.cells #[.int .i64 a, .int .i64 n, .int .i64 x] 41 (0, 0)) _ (by simp <;> omega) |>.trans (alloc3_1 w (.cells #[.int .i64 k, .int .i64 a, .int .i64 n, .int .i64 t, .int .i64 x] 78 (0, 0)) (.cells #[.int .i64 0, .int .i64 0, .int .i64 0] 41 (0, 0)) (.cells #[.int .i64 a, .int .i64 n, .int .i64 x] 41 (0, 0))))
    have hC2 := f2.kept (alloc_lt _ (.cells #[.int .i64 a, .int .i64 n, .int .i64 x] 41 (0, 0)) _ (by simp) |>.trans (alloc3_2 w (.cells #[.int .i64 k, .int .i64 a, .int .i64 n, .int .i64 t, .int .i64 x] 78 (0, 0)) (.cells #[.int .i64 0, .int .i64 0, .int .i64 0] 41 (0, 0)) (.cells #[.int .i64 a, .int .i64 n, .int .i64 x] 41 (0, 0))))
    have F2 := (FW.alloc (.cells #[.int .i64 a, .int .i64 n, .int .i64 x] 41 (0, 0))).trans f2
    obtain ⟨a0, a1, a2, a3, a4, la⟩ := cells5w hA2
    obtain ⟨b0, b1, b2, bf, lb⟩ := cells3 hB2
    clear CB CB2 CU FW f2
    go_wp2_with fail
    refine (CRG.out _).mono ?_
    rintro e w' ⟨rfl, rfl⟩
    go_wp2_with fail
    have hZ := setCell_block (setCell_block (setCell_block hB2 0 (.int .i64 0)) 1 (.int .i64 0)) 2 (.int .i64 0)
    obtain ⟨z0, z1, z2, _, _⟩ := cells3 hZ
    exact bodyPost_ret (v := .tuple #[.agg #[.int .i64 0, .int .i64 0, .int .i64 0], .int .i64 0, .iface 52 (.int .i64 1)]) (by simp [results, Tryz.results69, go_sem, z0, z1, z2]) rfl ⟨rfl, by repeat (first | exact F2 | refine Fr0.setCell ?_ _ _ (by simp; try omega))⟩
  · have q1 : (k == 1) = false := beq_eq_false_iff_ne.2 (by omega)
    have q2 : (k == 2) = false := beq_eq_false_iff_ne.2 (by omega)
    have q3 : (k == 3) = true := beq_iff_eq.2 k3
    clear k3
    go_wp2_with fail
    refine (CU.out _ (((((Fr0.refl w).alloc _).alloc _).alloc _))).mono ?_
    rintro e w1 ⟨rfl, rfl⟩
    go_wp2_with fail
    have FW := ((((Fr0.refl w).alloc (.cells #[.int .i64 k, .int .i64 a, .int .i64 n, .int .i64 t, .int .i64 x] 78 (0, 0))).alloc (.cells #[.int .i64 0, .int .i64 0, .int .i64 0] 41 (0, 0))).alloc (.cells #[.int .i64 a, .int .i64 n, .int .i64 x] 41 (0, 0)))
    have CB2 := Lib.hid (CB.out _ FW (w.heap.size + 1 + 1 + 1) (by simp))
    refine CB2.out.mono ?_
    rintro e w2 ⟨rfl, f2⟩
    have hA2 := f2.kept (alloc_lt _ (.cells #[.int .i64 a, .int .i64 n, .int .i64 x] 41 (0, 0)) _ (by simp <;> omega) |>.trans (alloc3_0 w (.cells #[.int .i64 k, .int .i64 a, .int .i64 n, .int .i64 t, .int .i64 x] 78 (0, 0)) (.cells #[.int .i64 0, .int .i64 0, .int .i64 0] 41 (0, 0)) (.cells #[.int .i64 a, .int .i64 n, .int .i64 x] 41 (0, 0))))
    have hB2 := f2.kept (alloc_lt _ (.cells #[.int .i64 a, .int .i64 n, .int .i64 x] 41 (0, 0)) _ (by simp <;> omega) |>.trans (alloc3_1 w (.cells #[.int .i64 k, .int .i64 a, .int .i64 n, .int .i64 t, .int .i64 x] 78 (0, 0)) (.cells #[.int .i64 0, .int .i64 0, .int .i64 0] 41 (0, 0)) (.cells #[.int .i64 a, .int .i64 n, .int .i64 x] 41 (0, 0))))
    have hC2 := f2.kept (alloc_lt _ (.cells #[.int .i64 a, .int .i64 n, .int .i64 x] 41 (0, 0)) _ (by simp) |>.trans (alloc3_2 w (.cells #[.int .i64 k, .int .i64 a, .int .i64 n, .int .i64 t, .int .i64 x] 78 (0, 0)) (.cells #[.int .i64 0, .int .i64 0, .int .i64 0] 41 (0, 0)) (.cells #[.int .i64 a, .int .i64 n, .int .i64 x] 41 (0, 0))))
    have F2 := (FW.alloc (.cells #[.int .i64 a, .int .i64 n, .int .i64 x] 41 (0, 0))).trans f2
    obtain ⟨a0, a1, a2, a3, a4, la⟩ := cells5w hA2
    obtain ⟨b0, b1, b2, bf, lb⟩ := cells3 hB2
    clear CB CB2 CU FW f2
    go_wp2_with fail
    refine (CRG.out _).mono ?_
    rintro e w' ⟨rfl, rfl⟩
    go_wp2_with fail
    have hZ := setCell_block (setCell_block (setCell_block hB2 0 (.int .i64 0)) 1 (.int .i64 0)) 2 (.int .i64 0)
    obtain ⟨z0, z1, z2, _, _⟩ := cells3 hZ
    exact bodyPost_ret (v := .tuple #[.agg #[.int .i64 0, .int .i64 0, .int .i64 0], .int .i64 0, .iface 52 (.int .i64 1)]) (by simp [results, Tryz.results69, go_sem, z0, z1, z2]) rfl ⟨rfl, by repeat (first | exact F2 | refine Fr0.setCell ?_ _ _ (by simp; try omega))⟩

set_option maxRecDepth 100000 in
set_option maxHeartbeats 2000000 in
theorem pat_change_ok {B : Nat} {w : World} {p mb : Nat} {most : Int} {L : List Ent} (hS : Sto B w p mb most L) (hO : SOk L) (hD : DOk L) (len k a n t x : Int) {tx : List Int} {d : Int} (hb : BalZ L x tx d) (hc : (EP.mk k a n t tx).code len = 0) (hl1 : len + tx.length ≤ 1152921504606846976) :
    Calls Tryz.prog 69 #[.pointer (some ⟨p, 0, none⟩), .int .i64 len, .agg #[.int .i64 k, .int .i64 a, .int .i64 n, .int .i64 t, .int .i64 x]] w fun e w' => e = .returned (.tuple #[.agg #[.int .i64 a, .int .i64 n, .int .i64 x], .int .i64 (len - n + (tx.length : Int)), .nilIface]) ∧ Fr0 w w' := by
  obtain ⟨hf, r1, r2, r3⟩ := EP.fits_of hc
  dsimp only at r1 r2 r3
  have CU := Lib.hid (fun W (hW : Fr0 w W) => sto_unknown (hS.kept0 hW) hb.known)
  have CB := Lib.hid (fun W (hW : Fr0 w W) H (hH : W.heap.size = H) => sto_balanced_one' (hS.kept0 hW) a n x hb.known hb.even 41 1 H hH)
  have hx0 := hb.nil_iff hD hO
  have hfm : t = 0 ∧ ((k = 1 ∧ n = 0) ∨ (k = 2 ∧ x = 0) ∨ k = 3) := by
    have := of_decide_eq_true hf
    refine ⟨this.1, ?_⟩
    rcases this.2 with h | h | h
    · exact .inl h
    · exact .inr (.inl ⟨h.1, hx0.2 h.2⟩)
    · exact .inr (.inr h)
  obtain ⟨ht, hfm⟩ := hfm
  have q0 : (t == 0) = true := beq_iff_eq.2 ht
  have CRG := Lib.hid (fun W => len_Range_ok a n len W r1 r2 r3 (by omega))
  have CSZ := Lib.hid (fun W (hW : Fr0 w W) => sto_size (hS.kept0 hW) hD hO hb)
  have CAD := Lib.hid (fun W => len_Add_ok (len - n) tx.length W (by omega) (by omega) (by omega))
  have hn1 : n ≤ 1152921504606846976 := by omega
  have hl0 : 0 ≤ len := by omega
  have hl2 : len ≤ 1152921504606846976 := by omega
  clear hS hO hD hb hf hx0 ht hc
  go_enter Tryz.func69, Tryz.ntmps69
  rcases hfm with ⟨k1, h0⟩ | ⟨k2, h0⟩ | k3
  · have q1 : (k == 1) = true := beq_iff_eq.2 k1
    have q2 : (n == 0) = true := beq_iff_eq.2 h0
    clear k1 h0
    go_wp2_with fail
    refine (CU.out _ (((((Fr0.refl w).alloc _).alloc _).alloc _))).mono ?_
    rintro e w1 ⟨rfl, rfl⟩
    go_wp2_with fail
    have FW := ((((Fr0.refl w).alloc (.cells #[.int .i64 k, .int .i64 a, .int .i64 n, .int .i64 t, .int .i64 x] 78 (0, 0))).alloc (.cells #[.int .i64 0, .int .i64 0, .int .i64 0] 41 (0, 0))).alloc (.cells #[.int .i64 a, .int .i64 n, .int .i64 x] 41 (0, 0)))
    have CB2 := Lib.hid (CB.out _ FW (w.heap.size + 1 + 1 + 1) (by simp))
    refine CB2.out.mono ?_
    rintro e w2 ⟨rfl, f2⟩
    have hA2 := f2.kept (alloc_lt _ (.cells #[.int .i64 a, .int .i64 n, .int .i64 x] 41 (0, 0)) _ (by simp <;> omega) |>.trans (alloc3_0 w (.cells #[.int .i64 k, .int .i64 a, .int .i64 n, .int .i64 t, .int .i64 x] 78 (0, 0)) (.cells #[.int .i64 0, .int .i64 0, .int .i64 0] 41 (0, 0)) (.cells #[.int .i64 a, .int .i64 n, .int .i64 x] 41 (0, 0))))
    have hB2 := f2.kept (alloc_lt _ (.cells #[.int .i64 a, .int .i64 n, .int .i64 x] 41 (0, 0)) _ (by simp <;> omega) |>.trans (alloc3_1 w (.cells #[.int .i64 k, .int .i64 a, .int .i64 n, .int .i64 t, .int .i64 x] 78 (0, 0)) (.cells #[.int .i64 0, .int .i64 0, .int .i64 0] 41 (0, 0)) (.cells #[.int .i64 a, .int .i64 n, .int .i64 x] 41 (0, 0))))
    have hC2 := f2.kept (alloc_lt _ (.cells #[.int .i64 a, .int .i64 n, .int .i64 x] 41 (0, 0)) _ (by simp) |>.trans (alloc3_2 w (.cells #[.int .i64 k, .int .i64 a, .int .i64 n, .int .i64 t, .int .i64 x] 78 (0, 0)) (.cells #[.int .i64 0, .int .i64 0, .int .i64 0] 41 (0, 0)) (.cells #[.int .i64 a, .int .i64 n, .int .i64 x] 41 (0, 0))))
    have F2 := (FW.alloc (.cells #[.int .i64 a, .int .i64 n, .int .i64 x] 41 (0, 0))).trans f2
    obtain ⟨a0, a1, a2, a3, a4, la⟩ := cells5w hA2
    obtain ⟨b0, b1, b2, bf, lb⟩ := cells3 hB2
    clear CB CB2 CU FW f2
    go_wp2_with fail
    refine (CRG.out _).mono ?_
    rintro e w' ⟨rfl, rfl⟩
    go_wp2_with fail
    refine (CSZ.out _ F2).mono ?_
    rintro e w3 ⟨rfl, f3⟩
    have hA3 := f3.kept hA2
    have hB3 := f3.kept hB2
    have hC3 := f3.kept hC2
    have F3 := F2.trans f3
    clear a0 a1 a2 a3 a4 la b0 b1 b2 bf lb hA2 hB2 hC2 F2 f3 CSZ
    obtain ⟨a0, a1, a2, a3, a4, la⟩ := cells5w hA3
    obtain ⟨b0, b1, b2, bf, lb⟩ := cells3 hB3
    obtain ⟨c0, c1, c2, _, lc⟩ := cells3 hC3
    go_wp2_with fail
    refine (CAD.out _).mono ?_
    rintro e w' ⟨rfl, rfl⟩
    go_wp2_with fail
    have hZ := setCell_block (setCell_block (setCell_block hB3 0 (.int .i64 a)) 1 (.int .i64 n)) 2 (.int .i64 x)
    obtain ⟨z0, z1, z2, _, _⟩ := cells3 hZ
    exact bodyPost_ret (v := .tuple #[.agg #[.int .i64 a, .int .i64 n, .int .i64 x], .int .i64 (len - n + (tx.length : Int)), .nilIface]) (by simp [results, Tryz.results69, go_sem, z0, z1, z2]) rfl ⟨rfl, by repeat (first | exact F3 | refine Fr0.setCell ?_ _ _ (by simp; try omega))⟩
  · have q1 : (k == 1) = false := beq_eq_false_iff_ne.2 (by omega)
    have q2 : (k == 2) = true := beq_iff_eq.2 k2
    have q3 : (x == 0) = true := beq_iff_eq.2 h0
    clear k2 h0
    go_wp2_with fail
    refine (CU.out _ (((((Fr0.refl w).alloc _).alloc _).alloc _))).mono ?_
    rintro e w1 ⟨rfl, rfl⟩
    go_wp2_with fail
    have FW := ((((Fr0.refl w).alloc (.cells #[.int .i64 k, .int .i64 a, .int .i64 n, .int .i64 t, .int .i64 x] 78 (0, 0))).alloc (.cells #[.int .i64 0, .int .i64 0, .int .i64 0] 41 (0, 0))).alloc (.cells #[.int .i64 a, .int .i64 n, .int .i64 x] 41 (0, 0)))
    have CB2 := Lib.hid (CB.out _ FW (w.heap.size + 1 + 1 + 1) (by simp))
    refine CB2.out.mono ?_
    rintro e w2 ⟨rfl, f2⟩
    have hA2 := f2.kept (alloc_lt _ (.cells #[.int .i64 a, .int .i64 n, .int .i64 x] 41 (0, 0)) _ (by simp <;> omega) |>.trans (alloc3_0 w (.cells #[.int .i64 k, .int .i64 a, .int .i64 n, .int .i64 t, .int .i64 x] 78 (0, 0)) (.cells #[.int .i64 0, .int .i64 0, .int .i64 0] 41 (0, 0)) (.cells #[.int .i64 a, .int .i64 n, .int .i64 x] 41 (0, 0))))
    have hB2 := f2.kept (alloc_lt _ (.cells #[.int .i64 a, .int .i64 n, .int .i64 x] 41 (0, 0)) _ (by simp <;> omega) |>.trans (alloc3_1 w (.cells #[.int .i64 k, .int .i64 a, .int .i64 n, .int .i64 t, .int .i64 x] 78 (0, 0)) (.cells #[.int .i64 0, .int .i64 0, .int .i64 0] 41 (0, 0)) (.cells #[.int .i64 a, .int .i64 n, .int .i64 x] 41 (0, 0))))
    have hC2 := f2.kept (alloc_lt _ (.cells #[.int .i64 a, .int .i64 n, .int .i64 x] 41 (0, 0)) _ (by simp) |>.trans (alloc3_2 w (.cells #[.int .i64 k, .int .i64 a, .int .i64 n, .int .i64 t, .int .i64 x] 78 (0, 0)) (.cells #[.int .i64 0, .int .i64 0, .int .i64 0] 41 (0, 0)) (.cells #[.int .i64 a, .int .i64 n, .int .i64 x] 41 (0, 0))))
    have F2 := (FW.alloc (.cells #[.int .i64 a, .int .i64 n, .int .i64 x] 41 (0, 0))).trans f2
    obtain ⟨a0, a1, a2, a3, a4, la⟩ := cells5w hA2
    obtain ⟨b0, b1, b2, bf, lb⟩ := cells3 hB2
    clear CB CB2 CU FW f2
    go_wp2_with fail
    refine (CRG.out _).mono ?_
    rintro e w' ⟨rfl, rfl⟩
    go_wp2_with fail
    refine (CSZ.out _ F2).mono ?_
    rintro e w3 ⟨rfl, f3⟩
    have hA3 := f3.kept hA2
    have hB3 := f3.kept hB2
    have hC3 := f3.kept hC2
    have F3 := F2.trans f3
    clear a0 a1 a2 a3 a4 la b0 b1 b2 bf lb hA2 hB2 hC2 F2 f3 CSZ
    obtain ⟨a0, a1, a2, a3, a4, la⟩ := cells5w hA3
    obtain ⟨b0, b1, b2, bf, lb⟩ := cells3 hB3
    obtain ⟨c0, c1, c2, _, lc⟩ := cells3 hC3
    go_wp2_with fail
    refine (CAD.out _).mono ?_
    rintro e w' ⟨rfl, rfl⟩
    go_wp2_with fail
    have hZ := setCell_block (setCell_block (setCell_block hB3 0 (.int .i64 a)) 1 (.int .i64 n)) 2 (.int .i64 x)
    obtain ⟨z0, z1, z2, _, _⟩ := cells3 hZ
    exact bodyPost_ret (v := .tuple #[.agg #[.int .i64 a, .int .i64 n, .int .i64 x], .int .i64 (len - n + (tx.length : Int)), .nilIface]) (by simp [results, Tryz.results69, go_sem, z0, z1, z2]) rfl ⟨rfl, by repeat (first | exact F3 | refine Fr0.setCell ?_ _ _ (by simp; try omega))⟩
  · have q1 : (k == 1) = false := beq_eq_false_iff_ne.2 (by omega)
    have q2 : (k == 2) = false := beq_eq_false_iff_ne.2 (by omega)
    have q3 : (k == 3) = true := beq_iff_eq.2 k3
    clear k3
    go_wp2_with fail
    refine (CU.out _ (((((Fr0.refl w).alloc _).alloc _).alloc _))).mono ?_
    rintro e w1 ⟨rfl, rfl⟩
    go_wp2_with fail
    have FW := ((((Fr0.refl w).alloc (.cells #[.int .i64 k, .int .i64 a, .int .i64 n, .int .i64 t, .int .i64 x] 78 (0, 0))).alloc (.cells #[.int .i64 0, .int .i64 0, .int .i64 0] 41 (0, 0))).alloc (.cells #[.int .i64 a, .int .i64 n, .int .i64 x] 41 (0, 0)))
    have CB2 := Lib.hid (CB.out _ FW (w.heap.size + 1 + 1 + 1) (by simp))
    refine CB2.out.mono ?_
    rintro e w2 ⟨rfl, f2⟩
    have hA2 := f2.kept (alloc_lt _ (.cells #[.int .i64 a, .int .i64 n, .int .i64 x] 41 (0, 0)) _ (by simp <;> omega) |>.trans (alloc3_0 w (.cells #[.int .i64 k, .int .i64 a, .int .i64 n, .int .i64 t, .int .i64 x] 78 (0, 0)) (.cells #[.int .i64 0, .int .i64 0, .int .i64 0] 41 (0, 0)) (.cells #[.int .i64 a, .int .i64 n, .int .i64 x] 41 (0, 0))))
    have hB2 := f2.kept (alloc_lt _ (.cells #[.int .i64 a, .int .i64 n, .int .i64 x] 41 (0, 0)) _ (by simp <;> omega) |>.trans (alloc3_1 w (.cells #[.int .i64 k, .int .i64 a, .int .i64 n, .int .i64 t, .int .i64 x] 78 (0, 0)) (.cells #[.int .i64 0, .int .i64 0, .int .i64 0] 41 (0, 0)) (.cells #[.int .i64 a, .int .i64 n, .int .i64 x] 41 (0, 0))))
    have hC2 := f2.kept (alloc_lt _ (.cells #[.int .i64 a, .int .i64 n, .int .i64 x] 41 (0, 0)) _ (by simp) |>.trans (alloc3_2 w (.cells #[.int .i64 k, .int .i64 a, .int .i64 n, .int .i64 t, .int .i64 x] 78 (0, 0)) (.cells #[.int .i64 0, .int .i64 0, .int .i64 0] 41 (0, 0)) (.cells #[.int .i64 a, .int .i64 n, .int .i64 x] 41 (0, 0))))
    have F2 := (FW.alloc (.cells #[.int .i64 a, .int .i64 n, .int .i64 x] 41 (0, 0))).trans f2
    obtain ⟨a0, a1, a2, a3, a4, la⟩ := cells5w hA2
    obtain ⟨b0, b1, b2, bf, lb⟩ := cells3 hB2
    clear CB CB2 CU FW f2
    go_wp2_with fail
    refine (CRG.out _).mono ?_
    rintro e w' ⟨rfl, rfl⟩
    go_wp2_with fail
    refine (CSZ.out _ F2).mono ?_
    rintro e w3 ⟨rfl, f3⟩
    have hA3 := f3.kept hA2
    have hB3 := f3.kept hB2
    have hC3 := f3.kept hC2
    have F3 := F2.trans f3
    clear a0 a1 a2 a3 a4 la b0 b1 b2 bf lb hA2 hB2 hC2 F2 f3 CSZ
    obtain ⟨a0, a1, a2, a3, a4, la⟩ := cells5w hA3
    obtain ⟨b0, b1, b2, bf, lb⟩ := cells3 hB3
    obtain ⟨c0, c1, c2, _, lc⟩ := cells3 hC3
    go_wp2_with fail
    refine (CAD.out _).mono ?_
    rintro e w' ⟨rfl, rfl⟩
    go_wp2_with fail
    have hZ := setCell_block (setCell_block (setCell_block hB3 0 (.int .i64 a)) 1 (.int .i64 n)) 2 (.int .i64 x)
    obtain ⟨z0, z1, z2, _, _⟩ := cells3 hZ
    exact bodyPost_ret (v := .tuple #[.agg #[.int .i64 a, .int .i64 n, .int .i64 x], .int .i64 (len - n + (tx.length : Int)), .nilIface]) (by simp [results, Tryz.results69, go_sem, z0, z1, z2]) rfl ⟨rfl, by repeat (first | exact F3 | refine Fr0.setCell ?_ _ _ (by simp; try omega))⟩

end Go.Proofs.YtclpndigmidjkaaGreat

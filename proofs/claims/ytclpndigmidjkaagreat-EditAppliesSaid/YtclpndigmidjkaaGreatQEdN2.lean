/- The walk of EditNone. -/
import Derived.Test.YtclpndigmidjkaaGreatQEdN
set_option linter.unusedSimpArgs false
set_option linter.unusedVariables false
namespace Go.Proofs.YtclpndigmidjkaaGreat
open Go.RowKit

set_option maxRecDepth 100000 in
set_option maxHeartbeats 400000 in
theorem edit_Apply_none (id k a n t x : Int) (w : World) :
    Calls Tryz.prog 43 #[.pointer none, .int .i64 id, .agg #[.int .i64 k, .int .i64 a, .int .i64 n, .int .i64 t, .int .i64 x]] w fun e w' => e = .returned (.tuple #[.int .i64 0, .iface 52 (.int .i64 5)]) ∧ Fr0 w w' := by
  go_enter Tryz.func43, Tryz.ntmps43
  go_wp2_with fail
  go_ret2
  exact ⟨rfl, (Fr0.refl w).alloc _⟩

set_option maxRecDepth 100000 in
set_option maxHeartbeats 400000 in
theorem edit_Length_none (id k a n t x : Int) (w : World) :
    Calls Tryz.prog 37 #[.pointer none, .int .i64 id, .agg #[.int .i64 k, .int .i64 a, .int .i64 n, .int .i64 t, .int .i64 x]] w fun e w' => e = .returned (.tuple #[.int .i64 0, .iface 52 (.int .i64 5)]) ∧ Fr0 w w' := by
  go_enter Tryz.func37, Tryz.ntmps37
  go_wp2_with fail
  go_ret2
  exact ⟨rfl, (Fr0.refl w).alloc _⟩

set_option maxRecDepth 100000 in
set_option maxHeartbeats 400000 in
theorem edit_known_none (id : Int) (w : World) :
    Calls Tryz.prog 84 #[.pointer none, .int .i64 id] w fun e w' => e = .returned (.iface 52 (.int .i64 5)) ∧ w = w' := by
  go_enter Tryz.func84, Tryz.ntmps84
  go_wp2_with fail
  go_ret
  exact ⟨rfl, rfl⟩

set_option maxRecDepth 100000 in
set_option maxHeartbeats 400000 in
theorem edit_All_none (id : Int) (v : Value) (w : World) :
    Calls Tryz.prog 49 #[.pointer none, .int .i64 id, v] w fun e w' => e = .returned (.tuple #[.int .i64 0, .iface 52 (.int .i64 5)]) ∧ w = w' := by
  go_enter Tryz.func49, Tryz.ntmps49
  go_wp2_with fail
  refine (edit_known_none _ _).mono ?_
  rintro e w1 ⟨rfl, rfl⟩
  go_wp2_with fail
  go_ret2
  exact ⟨rfl, rfl⟩

set_option maxRecDepth 100000 in
set_option maxHeartbeats 400000 in
theorem edit_Inverse_none (id : Int) (v : Value) (w : World) :
    Calls Tryz.prog 50 #[.pointer none, .int .i64 id, v] w fun e w' => e = .returned (.tuple #[.slice none 0 0, .iface 52 (.int .i64 5)]) ∧ w = w' := by
  go_enter Tryz.func50, Tryz.ntmps50
  go_wp2_with fail
  refine (edit_known_none _ _).mono ?_
  rintro e w1 ⟨rfl, rfl⟩
  go_wp2_with fail
  go_ret2
  exact ⟨rfl, rfl⟩

set_option maxRecDepth 100000 in
set_option maxHeartbeats 400000 in
theorem ref12_Pick_one (n : Int) (w : World) (h0 : -9223372036854775808 ≤ n) (h1 : n ≤ 9223372036854775807) :
    Calls Tryz.prog 54 #[.int .i64 n, .int .i64 1] w fun e w' => e = .returned (.int .i64 0) ∧ w = w' := by
  have e1 : n.tmod 1 = 0 := Int.tmod_one n
  go_enter Tryz.func54, Tryz.ntmps54
  go_wp2_with fail
  go_ret
  exact ⟨rfl, rfl⟩

/-- What world.text leaves: two IDs. -/
def TxPost (w : World) (e : Ending) (w' : World) : Prop := ∃ x y : Int, e = .returned (.tuple #[.int .i64 x, .int .i64 y]) ∧ Fr0 w w'

set_option maxRecDepth 100000 in
set_option maxHeartbeats 1000000 in
theorem law36_text_nil {w0 w : World} {q p mb : Nat} {va vi : Value} (hW : Wd w0 w q p mb (.slice none 0 0) (.slice none 0 0) va vi []) (hz : Zero1 w va) (ho : w.ownsRow w0.heap.size 39 1 vi 1 [.int .i64 0]) (n : Int) (h0 : -9223372036854775808 ≤ n) (h1 : n ≤ 9223372036854775807) :
    Calls Tryz.prog 41 #[.pointer (some ⟨q, 0, none⟩), .int .i64 n] w (TxPost w) := by
  obtain ⟨b, rfl, hb⟩ := hz
  obtain ⟨g, cap, rfl, _, _⟩ := ho.form (by omega)
  have cg : w.cell? ⟨g, 0, none⟩ = some (.int .i64 0) := owns_cell ho 0 _ rfl
  have cb : w.cell? ⟨b, 0, none⟩ = some (.int .i64 0) := by rw [cell_of_block hb]; rfl
  have CL := Lib.hid (sto_Len hW.st)
  obtain ⟨c0, c1, c2, c3, c4, cf, lq⟩ := hW.front
  have CP := Lib.hid (fun w => ref12_Pick_one n w h0 h1)
  have e1 : n.tmod 1 = 0 := Int.tmod_one n
  clear hW hb ho
  by_cases k4 : n = -4
  · subst k4
    go_enter Tryz.func41, Tryz.ntmps41
    go_wp2_with fail
    go_ret2
    exact ⟨_, _, rfl, Fr0.refl w⟩
  · have d4 : (n == -4) = false := by simpa using k4
    by_cases k5 : n = -5
    · subst k5
      go_enter Tryz.func41, Tryz.ntmps41
      go_wp2_with fail
      refine CL.out.mono ?_
      rintro e w1 ⟨rfl, rfl⟩
      go_wp2_with fail
      go_ret2
      exact ⟨_, _, rfl, Fr0.refl w⟩
    · have d5 : (n == -5) = false := by simpa using k5
      by_cases k6 : 1000 ≤ n
      · have d6 : decide (1000 ≤ n) = true := decide_eq_true k6
        go_enter Tryz.func41, Tryz.ntmps41
        go_wp2_with fail
        go_quiet (fail)
        go_wp2_with fail
        go_ret2
        exact ⟨_, _, rfl, (Fr0.refl w).drewN _⟩
      · have d6 : decide (1000 ≤ n) = false := decide_eq_false k6
        go_enter Tryz.func41, Tryz.ntmps41
        go_wp2_with fail
        refine (CP.out _).mono ?_
        rintro e w1 ⟨rfl, rfl⟩
        go_wp2_with fail
        go_quiet (fail)
        go_wp2_with fail
        go_ret2
        exact ⟨_, _, rfl, (Fr0.refl w).drewN _⟩

/-- What world.edit leaves: an edit. -/
def EdPost (w : World) (k a n t : Int) (e : Ending) (w' : World) : Prop := ∃ x y : Int, e = .returned (.tuple #[.agg #[.int .i64 k, .int .i64 a, .int .i64 n, .int .i64 t, .int .i64 x], .int .i64 y]) ∧ Fr0 w w'

set_option maxRecDepth 100000 in
set_option maxHeartbeats 1000000 in
theorem law36_edit_nil {w0 w : World} {q p mb : Nat} {va vi : Value} (hW : Wd w0 w q p mb (.slice none 0 0) (.slice none 0 0) va vi []) (hz : Zero1 w va) (ho : w.ownsRow w0.heap.size 39 1 vi 1 [.int .i64 0]) (k a n t pk : Int) (h0 : -9223372036854775808 ≤ pk) (h1 : pk ≤ 9223372036854775807) :
    Calls Tryz.prog 36 #[.pointer (some ⟨q, 0, none⟩), .agg #[.int .i64 k, .int .i64 a, .int .i64 n, .int .i64 t, .int .i64 pk]] w (EdPost w k a n t) := by
  have CT := Lib.hid (fun W (hf : Fr0 w W) => law36_text_nil (hW.kept0 hf) (hz.kept0 hf) (hf.owns ho) pk h0 h1)
  clear hW hz ho
  go_enter Tryz.func36, Tryz.ntmps36
  go_wp2_with fail
  refine (CT.out _ (((Fr0.refl w).alloc _).alloc _)).mono ?_
  rintro e w1 ⟨x, y, rfl, f1⟩
  have hb0 := f1.kept (alloc2_0 _ _ _)
  have hb1 := f1.kept (alloc2_1 _ _ _)
  have F1 := (((Fr0.refl w).alloc _).alloc _).trans f1
  obtain ⟨r1, r2, r3, r4, r5, lr⟩ := cells5 hb0
  obtain ⟨s1, s2, s3, s4, s5, ls⟩ := cells5 hb1
  have hfz : ∀ o, w1.frozen? ⟨w.heap.size + 1, o, none⟩ = false := fun o => frozen_of_block hb1 o
  clear hb0 hb1 f1
  go_wp2_with fail
  refine bodyPost_ret (v := .tuple #[.agg #[.int .i64 k, .int .i64 a, .int .i64 n, .int .i64 t, .int .i64 x], .int .i64 y]) (by simp [results, Tryz.results36, go_sem, *]) rfl ⟨x, y, rfl, ?_⟩
  (repeat' (first | (with_reducible exact F1) | (with_reducible refine Fr0.setCell ?_ _ _ ?_) | (with_reducible refine Fr0.alloc ?_ _) | (with_reducible refine Fr0.drew ?_))) <;> first | omega | (dsimp only; omega) | (simp; done) | (simp; omega)

set_option maxRecDepth 100000 in
set_option maxHeartbeats 1000000 in
theorem editNone_all (id k a n t pk : Int) (w : World) (h0 : -9223372036854775808 ≤ pk) (h1 : pk ≤ 9223372036854775807) :
    Calls Tryz.prog 8 #[.int .i64 id, .agg #[.int .i64 k, .int .i64 a, .int .i64 n, .int .i64 t, .int .i64 pk]] w fun e w' => e = .returned (.bool true) ∧ Fr0 w w' := by
  have CB := Lib.hid (fun w => law36_begun_nil w)
  have CE := Lib.hid (fun (w0 w : World) (q p mb : Nat) (va vi : Value) (hW : Wd w0 w q p mb (.slice none 0 0) (.slice none 0 0) va vi []) (hz : Zero1 w va) (ho : w.ownsRow w0.heap.size 39 1 vi 1 [.int .i64 0]) => law36_edit_nil hW hz ho k a n t pk h0 h1)
  go_enter Tryz.func8, Tryz.ntmps8
  go_wp2_with fail
  refine (CB.out _).mono ?_
  rintro e w1 ⟨q, p, mb, va, vi, rfl, hW, hz, ho⟩
  have hr1 := hW.fr.kept (b := w.heap.size) (alloc_at w _ _ rfl)
  have F1 := ((Fr0.refl w).alloc _).trans hW.fr
  have CE1 := Lib.hid (CE.out _ _ _ _ _ _ _ hW hz ho)
  obtain ⟨r1, r2, r3, r4, r5, lr⟩ := cells5 hr1
  clear hW hz ho CE CB hr1
  go_wp2_with fail
  refine CE1.out.mono ?_
  rintro e w2 ⟨x, y, rfl, f2⟩
  have F2 := F1.trans f2
  clear f2 CE1 r1 r2 r3 r4 r5 lr F1
  go_wp2_with fail
  refine (edit_Apply_none _ _ _ _ _ _ _).mono ?_
  rintro e w3 ⟨rfl, f3⟩
  have hr3 := f3.kept (b := w2.heap.size) (alloc_at w2 _ _ rfl)
  have F3 := (F2.alloc _).trans f3
  obtain ⟨r1, r2, r3, r4, r5, lr⟩ := cells5 hr3
  clear f3 F2
  go_wp2_with fail
  refine (edit_All_none _ _ _).mono ?_
  rintro e w4 ⟨rfl, rfl⟩
  go_wp2_with fail
  refine (edit_Inverse_none _ _ _).mono ?_
  rintro e w4 ⟨rfl, rfl⟩
  go_wp2_with fail
  refine (edit_Length_none _ _ _ _ _ _ _).mono ?_
  rintro e w4 ⟨rfl, f4⟩
  have F4 := ((F3.alloc _).alloc _).trans f4
  clear f4 F3 r1 r2 r3 r4 r5 lr hr3
  go_wp2_with fail
  refine (base_Is 5 _ (by decide)).mono ?_
  rintro e w' ⟨rfl, rfl⟩
  go_wp2_with fail
  refine (base_Is 5 _ (by decide)).mono ?_
  rintro e w' ⟨rfl, rfl⟩
  go_wp2_with fail
  refine (base_Is 5 _ (by decide)).mono ?_
  rintro e w' ⟨rfl, rfl⟩
  go_wp2_with fail
  refine (base_Is 5 _ (by decide)).mono ?_
  rintro e w' ⟨rfl, rfl⟩
  go_wp2_with fail
  go_ret
  exact ⟨rfl, F4⟩

end Go.Proofs.YtclpndigmidjkaaGreat

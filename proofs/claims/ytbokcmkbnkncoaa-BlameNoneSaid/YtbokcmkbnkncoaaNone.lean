/- The walk of BlameNone: it returns true for every length and version, and changes nothing that was there. -/
import Derived.Test.YtbokcmkbnkncoaaBeg
set_option linter.unusedSimpArgs false
set_option linter.unusedVariables false
namespace Go.Proofs.Ytbokcmkbnkncoaa
open Go.RowKit

theorem begun_front {w w1 : World} {q p mb : Nat} {ids : List Int} {pw : Int} {L : List Ent} (h : Begun w w1 q p mb ids pw L) : Fr0 w w1 ∧ w1.cell? ⟨q, 0, none⟩ = some (.pointer (some ⟨p, 0, none⟩)) ∧ q < w1.heap.size := by
  obtain ⟨tv, h3, h4, h5⟩ := h.wptr
  obtain ⟨c0, c1, c2, f, l⟩ := cells3 h3
  exact ⟨h.frame, c0, l⟩

set_option maxRecDepth 100000 in
set_option maxHeartbeats 2000000 in
theorem none_bad (length version : Int) (w : World) (h : length < 0 ∨ 1152921504606846976 < length) :
    Calls Try.prog 8 #[.int .i64 length, .int .i64 version] w fun e w' => e = .returned (.bool true) ∧ Fr0 w w' := by
  have CB := Lib.hid (law_begun w)
  have CO := Lib.hid (fun p w => bl_Of_range p length (.slice none 0 0) w h)
  have CS := Lib.hid (fun p w => bl_Since_range p length version (.slice none 0 0) w h)
  have ht : (decide (length < 0) = true) ∨ (decide (length < 0) = false ∧ 1152921504606846976 < length) := by
    by_cases hl : length < 0
    · exact .inl (decide_eq_true hl)
    · exact .inr ⟨decide_eq_false hl, by omega⟩
  clear h
  rcases ht with ht | ⟨ht, ht2⟩
  all_goals
    go_enter Try.func8, Try.ntmps8
    go_wp2_with fail
    refine CB.out.mono ?_
    rintro e w1 ⟨q, p, mb, ids, pw, L, rfl, hG⟩
    obtain ⟨hf1, c0, lq⟩ := begun_front hG
    clear hG CB
    go_wp2_with fail
    refine (bl_Of_none _ _ _).mono ?_
    rintro e w' ⟨rfl, rfl⟩
    go_wp2_with fail
    refine (bl_Since_none _ _ _ _).mono ?_
    rintro e w' ⟨rfl, rfl⟩
    go_wp2_with fail
    refine (base_Is 5 _ (by decide)).mono ?_
    rintro e w' ⟨rfl, rfl⟩
    go_wp2_with fail
    refine (base_Is 5 _ (by decide)).mono ?_
    rintro e w' ⟨rfl, rfl⟩
    go_wp2_with fail
    refine (CO.out _ _).mono ?_
    rintro e w' ⟨rfl, rfl⟩
    go_wp2_with fail
    refine (CS.out _ _).mono ?_
    rintro e w' ⟨rfl, rfl⟩
    go_wp2_with fail
    refine (base_Is 1 _ (by decide)).mono ?_
    rintro e w' ⟨rfl, rfl⟩
    go_wp2_with fail
    refine (base_Is 1 _ (by decide)).mono ?_
    rintro e w' ⟨rfl, rfl⟩
    go_wp2_with fail
    go_ret
    exact ⟨by simp, hf1⟩

set_option maxRecDepth 100000 in
set_option maxHeartbeats 400000 in
theorem none_ok0  (w : World) :
    Calls Try.prog 8 #[.int .i64 0, .int .i64 0] w fun e w' => e = .returned (.bool true) ∧ Fr0 w w' := by
  have CB := Lib.hid (law_begun w)
  have CO := Lib.hid (fun p w => bl_Of_zero p (0 : Int) w (by omega) (by omega))
  have CS := Lib.hid (fun p w => bl_Since_zero p 0 w (by omega) (by omega))
  have hd : decide ((0 : Int) < 0) = false := decide_eq_false (by omega)
  have HL : Hid ((rows0 (0 : Int)).length = 0) := (rows0_len (0 : Int)).trans (if_pos rfl)
  go_enter Try.func8, Try.ntmps8
  go_wp2_with fail
  refine CB.out.mono ?_
  rintro e w1 ⟨q, p, mb, ids, pw, L, rfl, hG⟩
  obtain ⟨hf1, c0, lq⟩ := begun_front hG
  clear hG CB
  go_wp2_with fail
  refine (bl_Of_none _ _ _).mono ?_
  rintro e w' ⟨rfl, rfl⟩
  go_wp2_with fail
  refine (bl_Since_none _ _ _ _).mono ?_
  rintro e w' ⟨rfl, rfl⟩
  go_wp2_with fail
  refine (base_Is 5 _ (by decide)).mono ?_
  rintro e w' ⟨rfl, rfl⟩
  go_wp2_with fail
  refine (base_Is 5 _ (by decide)).mono ?_
  rintro e w' ⟨rfl, rfl⟩
  go_wp2_with fail
  refine (CO.out _ _).mono ?_
  rintro e w2 ⟨rv, rfl, ho, hf2, hr⟩
  rw [HL.out] at ho
  obtain ⟨ra, rcap, rfl⟩ := owns_form ho
  have c0' : w2.cell? ⟨q, 0, none⟩ = some (.pointer (some ⟨p, 0, none⟩)) := (hf2.cell q 0 lq).trans c0
  have lq' : q < w2.heap.size := by have := hf2.size'; omega
  have hf12 := hf1.trans hf2
  clear ho hr c0 lq hf1 hf2 HL CO
  go_wp2_with fail
  refine (CS.out _ _).mono ?_
  rintro e w3 ⟨rfl, hf3⟩
  go_wp2_with fail
  all_goals
    go_ret
    exact ⟨by first | (simp; done) | (simp; omega), hf12.trans hf3⟩

set_option maxRecDepth 100000 in
set_option maxHeartbeats 400000 in
theorem none_ok1 (length : Int) (h0 : 1 ≤ length) (h1 : length ≤ 1152921504606846976) (w : World) :
    Calls Try.prog 8 #[.int .i64 length, .int .i64 0] w fun e w' => e = .returned (.bool true) ∧ Fr0 w w' := by
  have CB := Lib.hid (law_begun w)
  have CO := Lib.hid (fun p w => bl_Of_zero p length w (by omega) (by omega))
  have CS := Lib.hid (fun p w => bl_Since_zero p length w (by omega) (by omega))
  have hd : decide (length < 0) = false := decide_eq_false (by omega)
  have HL : Hid ((rows0 length).length = 1) := (rows0_len length).trans (if_neg (by omega))
  go_enter Try.func8, Try.ntmps8
  go_wp2_with fail
  refine CB.out.mono ?_
  rintro e w1 ⟨q, p, mb, ids, pw, L, rfl, hG⟩
  obtain ⟨hf1, c0, lq⟩ := begun_front hG
  clear hG CB
  go_wp2_with fail
  refine (bl_Of_none _ _ _).mono ?_
  rintro e w' ⟨rfl, rfl⟩
  go_wp2_with fail
  refine (bl_Since_none _ _ _ _).mono ?_
  rintro e w' ⟨rfl, rfl⟩
  go_wp2_with fail
  refine (base_Is 5 _ (by decide)).mono ?_
  rintro e w' ⟨rfl, rfl⟩
  go_wp2_with fail
  refine (base_Is 5 _ (by decide)).mono ?_
  rintro e w' ⟨rfl, rfl⟩
  go_wp2_with fail
  refine (CO.out _ _).mono ?_
  rintro e w2 ⟨rv, rfl, ho, hf2, hr⟩
  rw [HL.out] at ho
  obtain ⟨ra, rcap, rfl⟩ := owns_form ho
  have c0' : w2.cell? ⟨q, 0, none⟩ = some (.pointer (some ⟨p, 0, none⟩)) := (hf2.cell q 0 lq).trans c0
  have lq' : q < w2.heap.size := by have := hf2.size'; omega
  have hf12 := hf1.trans hf2
  clear ho hr c0 lq hf1 hf2 HL CO
  go_wp2_with fail
  refine (CS.out _ _).mono ?_
  rintro e w3 ⟨rfl, hf3⟩
  go_wp2_with fail
  all_goals
    go_ret
    exact ⟨by first | (simp; done) | (simp; omega), hf12.trans hf3⟩

set_option maxRecDepth 100000 in
set_option maxHeartbeats 400000 in
theorem none_ver0 (version : Int) (hv : version ≠ 0) (w : World) :
    Calls Try.prog 8 #[.int .i64 0, .int .i64 version] w fun e w' => e = .returned (.bool true) ∧ Fr0 w w' := by
  have CB := Lib.hid (law_begun w)
  have CO := Lib.hid (fun p w => bl_Of_zero p (0 : Int) w (by omega) (by omega))
  have CS := Lib.hid (fun p w => bl_Since_version p 0 version w (by omega) (by omega) (by omega))
  have hvb : (version == 0) = false := by simpa using hv
  clear hv
  have hd : decide ((0 : Int) < 0) = false := decide_eq_false (by omega)
  have HL : Hid ((rows0 (0 : Int)).length = 0) := (rows0_len (0 : Int)).trans (if_pos rfl)
  go_enter Try.func8, Try.ntmps8
  go_wp2_with fail
  refine CB.out.mono ?_
  rintro e w1 ⟨q, p, mb, ids, pw, L, rfl, hG⟩
  obtain ⟨hf1, c0, lq⟩ := begun_front hG
  clear hG CB
  go_wp2_with fail
  refine (bl_Of_none _ _ _).mono ?_
  rintro e w' ⟨rfl, rfl⟩
  go_wp2_with fail
  refine (bl_Since_none _ _ _ _).mono ?_
  rintro e w' ⟨rfl, rfl⟩
  go_wp2_with fail
  refine (base_Is 5 _ (by decide)).mono ?_
  rintro e w' ⟨rfl, rfl⟩
  go_wp2_with fail
  refine (base_Is 5 _ (by decide)).mono ?_
  rintro e w' ⟨rfl, rfl⟩
  go_wp2_with fail
  refine (CO.out _ _).mono ?_
  rintro e w2 ⟨rv, rfl, ho, hf2, hr⟩
  rw [HL.out] at ho
  obtain ⟨ra, rcap, rfl⟩ := owns_form ho
  have c0' : w2.cell? ⟨q, 0, none⟩ = some (.pointer (some ⟨p, 0, none⟩)) := (hf2.cell q 0 lq).trans c0
  have lq' : q < w2.heap.size := by have := hf2.size'; omega
  have hf12 := hf1.trans hf2
  clear ho hr c0 lq hf1 hf2 HL CO
  go_wp2_with fail
  refine (CS.out _ _).mono ?_
  rintro e w3 ⟨rfl, hf3⟩
  go_wp2_with fail
  all_goals
    go_ret
    exact ⟨by first | (simp; done) | (simp; omega), hf12.trans hf3⟩

set_option maxRecDepth 100000 in
set_option maxHeartbeats 400000 in
theorem none_ver1 (length version : Int) (h0 : 1 ≤ length) (h1 : length ≤ 1152921504606846976) (hv : version ≠ 0) (w : World) :
    Calls Try.prog 8 #[.int .i64 length, .int .i64 version] w fun e w' => e = .returned (.bool true) ∧ Fr0 w w' := by
  have CB := Lib.hid (law_begun w)
  have CO := Lib.hid (fun p w => bl_Of_zero p length w (by omega) (by omega))
  have CS := Lib.hid (fun p w => bl_Since_version p length version w (by omega) (by omega) (by omega))
  have hvb : (version == 0) = false := by simpa using hv
  clear hv
  have hd : decide (length < 0) = false := decide_eq_false (by omega)
  have HL : Hid ((rows0 length).length = 1) := (rows0_len length).trans (if_neg (by omega))
  go_enter Try.func8, Try.ntmps8
  go_wp2_with fail
  refine CB.out.mono ?_
  rintro e w1 ⟨q, p, mb, ids, pw, L, rfl, hG⟩
  obtain ⟨hf1, c0, lq⟩ := begun_front hG
  clear hG CB
  go_wp2_with fail
  refine (bl_Of_none _ _ _).mono ?_
  rintro e w' ⟨rfl, rfl⟩
  go_wp2_with fail
  refine (bl_Since_none _ _ _ _).mono ?_
  rintro e w' ⟨rfl, rfl⟩
  go_wp2_with fail
  refine (base_Is 5 _ (by decide)).mono ?_
  rintro e w' ⟨rfl, rfl⟩
  go_wp2_with fail
  refine (base_Is 5 _ (by decide)).mono ?_
  rintro e w' ⟨rfl, rfl⟩
  go_wp2_with fail
  refine (CO.out _ _).mono ?_
  rintro e w2 ⟨rv, rfl, ho, hf2, hr⟩
  rw [HL.out] at ho
  obtain ⟨ra, rcap, rfl⟩ := owns_form ho
  have c0' : w2.cell? ⟨q, 0, none⟩ = some (.pointer (some ⟨p, 0, none⟩)) := (hf2.cell q 0 lq).trans c0
  have lq' : q < w2.heap.size := by have := hf2.size'; omega
  have hf12 := hf1.trans hf2
  clear ho hr c0 lq hf1 hf2 HL CO
  go_wp2_with fail
  refine (CS.out _ _).mono ?_
  rintro e w3 ⟨rfl, hf3⟩
  go_wp2_with fail
  all_goals
    go_ret
    exact ⟨by first | (simp; done) | (simp; omega), hf12.trans hf3⟩

theorem none_all (length version : Int) (w : World) :
    Calls Try.prog 8 #[.int .i64 length, .int .i64 version] w fun e w' => e = .returned (.bool true) ∧ Fr0 w w' := by
  by_cases hb : length < 0 ∨ 1152921504606846976 < length
  · exact none_bad length version w hb
  · by_cases hz : length = 0
    · subst hz
      by_cases hv : version = 0
      · subst hv; exact none_ok0 w
      · exact none_ver0 version hv w
    · by_cases hv : version = 0
      · subst hv; exact none_ok1 length (by omega) (by omega) w
      · exact none_ver1 length version (by omega) (by omega) hv w

end Go.Proofs.Ytbokcmkbnkncoaa

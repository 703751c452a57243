/- The walks of edit.formed and within, and of the reference's Formed and Ranged. -/
import Derived.Test.YtclpndigmidjkaaGreatQEd1
set_option linter.unusedSimpArgs false
set_option linter.unusedVariables false
namespace Go.Proofs.YtclpndigmidjkaaGreat
open Go.RowKit

/-- The kind exists and has all fields that are not zero. -/
def frmB (k n t x : Int) : Bool := (k == 1 && (n == 0 && t == 0)) || ((k == 2 && (t == 0 && x == 0)) || ((k == 3 && t == 0) || ((k == 4 || k == 5) && x == 0)))
def inR (l a n : Int) : Bool := decide (0 ≤ a ∧ 0 ≤ n ∧ a + n ≤ l)
def inT (l t : Int) : Bool := decide (0 ≤ t ∧ t ≤ l)
def apB (a n t : Int) : Bool := decide (t ≤ a ∨ a + n ≤ t)
def witB (l k a n t : Int) : Bool := inR l a n && (inT l t && (k != 5 || apB a n t))
def rngB (l k a n t : Int) : Bool := inR l a n && ((inT l t || !(k == 4 || k == 5)) && (k != 5 || apB a n t))

set_option maxRecDepth 100000 in
set_option maxHeartbeats 2000000 in
theorem edit_formed (k a n t x : Int) (w : World) :
    Calls Tryz.prog 72 #[.agg #[.int .i64 k, .int .i64 a, .int .i64 n, .int .i64 t, .int .i64 x]] w fun e w' => e = .returned (.bool (frmB k n t x)) ∧ Fr0 w w' := by
  by_cases h1 : k = 1
  · subst h1
    cases en : (n == 0) <;> cases et : (t == 0)
    all_goals
      go_enter Tryz.func72, Tryz.ntmps72
      go_wp2_with fail
      go_ret
      exact ⟨by simp [frmB, en, et], (Fr0.refl w).alloc _⟩
  have d1 : (k == 1) = false := beq_eq_false_iff_ne.2 h1
  by_cases h2 : k = 2
  · subst h2
    cases et : (t == 0) <;> cases ex : (x == 0)
    all_goals
      go_enter Tryz.func72, Tryz.ntmps72
      go_wp2_with fail
      go_ret
      exact ⟨by simp [frmB, et, ex], (Fr0.refl w).alloc _⟩
  have d2 : (k == 2) = false := beq_eq_false_iff_ne.2 h2
  by_cases h3 : k = 3
  · subst h3
    cases et : (t == 0)
    all_goals
      go_enter Tryz.func72, Tryz.ntmps72
      go_wp2_with fail
      go_ret
      exact ⟨by simp [frmB, et], (Fr0.refl w).alloc _⟩
  have d3 : (k == 3) = false := beq_eq_false_iff_ne.2 h3
  by_cases h4 : k = 4
  · subst h4
    cases ex : (x == 0)
    all_goals
      go_enter Tryz.func72, Tryz.ntmps72
      go_wp2_with fail
      go_ret
      exact ⟨by simp [frmB, ex], (Fr0.refl w).alloc _⟩
  have d4 : (k == 4) = false := beq_eq_false_iff_ne.2 h4
  by_cases h5 : k = 5
  · subst h5
    cases ex : (x == 0)
    all_goals
      go_enter Tryz.func72, Tryz.ntmps72
      go_wp2_with fail
      go_ret
      exact ⟨by simp [frmB, ex], (Fr0.refl w).alloc _⟩
  have d5 : (k == 5) = false := beq_eq_false_iff_ne.2 h5
  clear h1 h2 h3 h4 h5
  go_enter Tryz.func72, Tryz.ntmps72
  go_wp2_with fail
  go_ret
  exact ⟨by simp [frmB, d1, d2, d3, d4, d5], (Fr0.refl w).alloc _⟩

set_option maxRecDepth 100000 in
set_option maxHeartbeats 2000000 in
theorem ref36_Formed (k a n t x : Int) (w : World) :
    Calls Tryz.prog 74 #[.agg #[.int .i64 k, .int .i64 a, .int .i64 n, .int .i64 t, .int .i64 x]] w fun e w' => e = .returned (.bool (frmB k n t x)) ∧ Fr0 w w' := by
  by_cases h1 : k = 1
  · subst h1
    cases en : (n == 0) <;> cases et : (t == 0)
    all_goals
      go_enter Tryz.func74, Tryz.ntmps74
      go_wp2_with fail
      go_ret
      exact ⟨by simp [frmB, en, et], (Fr0.refl w).alloc _⟩
  have d1 : (k == 1) = false := beq_eq_false_iff_ne.2 h1
  by_cases h2 : k = 2
  · subst h2
    cases et : (t == 0) <;> cases ex : (x == 0)
    all_goals
      go_enter Tryz.func74, Tryz.ntmps74
      go_wp2_with fail
      go_ret
      exact ⟨by simp [frmB, et, ex], (Fr0.refl w).alloc _⟩
  have d2 : (k == 2) = false := beq_eq_false_iff_ne.2 h2
  by_cases h3 : k = 3
  · subst h3
    cases et : (t == 0)
    all_goals
      go_enter Tryz.func74, Tryz.ntmps74
      go_wp2_with fail
      go_ret
      exact ⟨by simp [frmB, et], (Fr0.refl w).alloc _⟩
  have d3 : (k == 3) = false := beq_eq_false_iff_ne.2 h3
  by_cases h4 : k = 4
  · subst h4
    cases ex : (x == 0)
    all_goals
      go_enter Tryz.func74, Tryz.ntmps74
      go_wp2_with fail
      go_ret
      exact ⟨by simp [frmB, ex], (Fr0.refl w).alloc _⟩
  have d4 : (k == 4) = false := beq_eq_false_iff_ne.2 h4
  by_cases h5 : k = 5
  · subst h5
    cases ex : (x == 0)
    all_goals
      go_enter Tryz.func74, Tryz.ntmps74
      go_wp2_with fail
      go_ret
      exact ⟨by simp [frmB, ex], (Fr0.refl w).alloc _⟩
  have d5 : (k == 5) = false := beq_eq_false_iff_ne.2 h5
  clear h1 h2 h3 h4 h5
  go_enter Tryz.func74, Tryz.ntmps74
  go_wp2_with fail
  go_ret
  exact ⟨by simp [frmB, d1, d2, d3, d4, d5], (Fr0.refl w).alloc _⟩

theorem inR_true {l a n : Int} (h : 0 ≤ a) (h1 : 0 ≤ n) (h2 : a + n ≤ l) : inR l a n = true := decide_eq_true ⟨h, h1, h2⟩
theorem inR_false {l a n : Int} (h : a < 0 ∨ n < 0 ∨ l < a ∨ l - a < n) : inR l a n = false := decide_eq_false (by omega)
theorem inT_true {l t : Int} (h : 0 ≤ t) (h1 : t ≤ l) : inT l t = true := decide_eq_true ⟨h, h1⟩
theorem inT_false {l t : Int} (h : t < 0 ∨ l < t) : inT l t = false := decide_eq_false (by omega)
theorem apB_true {a n t : Int} (h : t ≤ a ∨ a + n ≤ t) : apB a n t = true := decide_eq_true h
theorem apB_false {a n t : Int} (h : ¬ (t ≤ a ∨ a + n ≤ t)) : apB a n t = false := decide_eq_false h

set_option maxRecDepth 100000 in
set_option maxHeartbeats 2000000 in
theorem edit_within (l k a n t x : Int) (w : World) (h0 : 0 ≤ l) (h1 : l ≤ 1152921504606846976) :
    Calls Tryz.prog 73 #[.int .i64 l, .agg #[.int .i64 k, .int .i64 a, .int .i64 n, .int .i64 t, .int .i64 x]] w fun e w' => e = .returned (.bool (witB l k a n t)) ∧ Fr0 w w' := by
  by_cases hr : a < 0 ∨ n < 0 ∨ l < a ∨ l - a < n
  · have C1 := Lib.hid (fun w => len_Range_no a n l w hr h0 h1)
    have B := Lib.hid (inR_false hr)
    clear hr
    go_enter Tryz.func73, Tryz.ntmps73
    go_wp2_with fail
    refine (C1.out _).mono ?_
    rintro e w' ⟨rfl, rfl⟩
    go_wp2_with fail
    go_ret
    exact ⟨by simp [witB, B.out], (Fr0.refl w).alloc _⟩
  · have C1 := Lib.hid (fun w => len_Range_ok a n l w (by omega) (by omega) (by omega) h1)
    have B := Lib.hid (inR_true (l := l) (a := a) (n := n) (by omega) (by omega) (by omega))
    have g1 : 0 ≤ a := by omega
    have g2 : 0 ≤ n := by omega
    have g3 : a ≤ l := by omega
    have g4 : n ≤ l - a := by omega
    clear hr
    by_cases t1 : t < 0
    · have T := Lib.hid (inT_false (l := l) (.inl t1))
      have e1 : decide (t < 0) = true := decide_eq_true t1
      go_enter Tryz.func73, Tryz.ntmps73
      go_wp2_with fail
      refine (C1.out _).mono ?_
      rintro e w' ⟨rfl, rfl⟩
      go_wp2_with fail
      go_ret
      exact ⟨by simp [witB, B.out, T.out], (Fr0.refl w).alloc _⟩
    · have e1 : decide (t < 0) = false := decide_eq_false t1
      by_cases t2 : l < t
      · have T := Lib.hid (inT_false (t := t) (.inr t2))
        have e2 : decide (l < t) = true := decide_eq_true t2
        go_enter Tryz.func73, Tryz.ntmps73
        go_wp2_with fail
        refine (C1.out _).mono ?_
        rintro e w' ⟨rfl, rfl⟩
        go_wp2_with fail
        go_ret
        exact ⟨by simp [witB, B.out, T.out], (Fr0.refl w).alloc _⟩
      · have e2 : decide (l < t) = false := decide_eq_false t2
        have T := Lib.hid (inT_true (l := l) (t := t) (by omega) (by omega))
        by_cases hk : k = 5
        · have e3 : (k != 5) = false := by simpa using hk
          clear hk
          by_cases t3 : t ≤ a
          · have P := Lib.hid (apB_true (a := a) (n := n) (t := t) (.inl t3))
            have e4 : decide (t ≤ a) = true := decide_eq_true t3
            go_enter Tryz.func73, Tryz.ntmps73
            go_wp2_with fail
            refine (C1.out _).mono ?_
            rintro e w' ⟨rfl, rfl⟩
            go_wp2_with fail
            go_ret
            exact ⟨by simp [witB, B.out, T.out, P.out], (Fr0.refl w).alloc _⟩
          · have e4 : decide (t ≤ a) = false := decide_eq_false t3
            by_cases t4 : a + n ≤ t
            · have P := Lib.hid (apB_true (a := a) (n := n) (t := t) (.inr t4))
              have e5 : decide (a + n ≤ t) = true := decide_eq_true t4
              go_enter Tryz.func73, Tryz.ntmps73
              go_wp2_with fail
              refine (C1.out _).mono ?_
              rintro e w' ⟨rfl, rfl⟩
              go_wp2_with fail
              go_ret
              exact ⟨by simp [witB, B.out, T.out, P.out], (Fr0.refl w).alloc _⟩
            · have P := Lib.hid (apB_false (a := a) (n := n) (t := t) (by omega))
              have e5 : decide (a + n ≤ t) = false := decide_eq_false t4
              go_enter Tryz.func73, Tryz.ntmps73
              go_wp2_with fail
              refine (C1.out _).mono ?_
              rintro e w' ⟨rfl, rfl⟩
              go_wp2_with fail
              go_ret
              exact ⟨by simp [witB, B.out, T.out, P.out, e3], (Fr0.refl w).alloc _⟩
        · have e3 : (k != 5) = true := by simpa using hk
          clear hk
          go_enter Tryz.func73, Tryz.ntmps73
          go_wp2_with fail
          refine (C1.out _).mono ?_
          rintro e w' ⟨rfl, rfl⟩
          go_wp2_with fail
          go_ret
          exact ⟨by simp [witB, B.out, T.out, e3], (Fr0.refl w).alloc _⟩

set_option maxRecDepth 100000 in
set_option maxHeartbeats 2000000 in
theorem ref36_Ranged (l k a n t x : Int) (w : World) (h0 : 0 ≤ l) (h1 : l ≤ 1152921504606846976) :
    Calls Tryz.prog 75 #[.agg #[.int .i64 k, .int .i64 a, .int .i64 n, .int .i64 t, .int .i64 x], .int .i64 l] w fun e w' => e = .returned (.bool (rngB l k a n t)) ∧ Fr0 w w' := by
  by_cases r1 : a < 0
  · have B := Lib.hid (inR_false (l := l) (n := n) (.inl r1))
    have d1 : decide (a < 0) = true := decide_eq_true r1
    go_enter Tryz.func75, Tryz.ntmps75
    go_wp2_with fail
    go_ret
    exact ⟨by simp [rngB, B.out], (Fr0.refl w).alloc _⟩
  have d1 : decide (a < 0) = false := decide_eq_false r1
  by_cases r2 : n < 0
  · have B := Lib.hid (inR_false (l := l) (a := a) (.inr (.inl r2)))
    have d2 : decide (n < 0) = true := decide_eq_true r2
    go_enter Tryz.func75, Tryz.ntmps75
    go_wp2_with fail
    go_ret
    exact ⟨by simp [rngB, B.out], (Fr0.refl w).alloc _⟩
  have d2 : decide (n < 0) = false := decide_eq_false r2
  by_cases r3 : l < a
  · have B := Lib.hid (inR_false (n := n) (.inr (.inr (.inl r3))))
    have d3 : decide (l < a) = true := decide_eq_true r3
    go_enter Tryz.func75, Tryz.ntmps75
    go_wp2_with fail
    go_ret
    exact ⟨by simp [rngB, B.out], (Fr0.refl w).alloc _⟩
  have d3 : decide (l < a) = false := decide_eq_false r3
  by_cases r4 : l - a < n
  · have B := Lib.hid (inR_false (.inr (.inr (.inr r4))))
    have d4 : decide (l - a < n) = true := decide_eq_true r4
    go_enter Tryz.func75, Tryz.ntmps75
    go_wp2_with fail
    go_ret
    exact ⟨by simp [rngB, B.out], (Fr0.refl w).alloc _⟩
  have d4 : decide (l - a < n) = false := decide_eq_false r4
  have B := Lib.hid (inR_true (l := l) (a := a) (n := n) (by omega) (by omega) (by omega))
  by_cases hk4 : k = 4
  · subst hk4
    by_cases t1 : t < 0
    · have T := Lib.hid (inT_false (l := l) (.inl t1))
      have e1 : decide (t < 0) = true := decide_eq_true t1
      go_enter Tryz.func75, Tryz.ntmps75
      go_wp2_with fail
      go_ret
      exact ⟨by simp [rngB, B.out, T.out], (Fr0.refl w).alloc _⟩
    have e1 : decide (t < 0) = false := decide_eq_false t1
    by_cases t2 : l < t
    · have T := Lib.hid (inT_false (t := t) (.inr t2))
      have e2 : decide (l < t) = true := decide_eq_true t2
      go_enter Tryz.func75, Tryz.ntmps75
      go_wp2_with fail
      go_ret
      exact ⟨by simp [rngB, B.out, T.out], (Fr0.refl w).alloc _⟩
    have e2 : decide (l < t) = false := decide_eq_false t2
    have T := Lib.hid (inT_true (l := l) (t := t) (by omega) (by omega))
    go_enter Tryz.func75, Tryz.ntmps75
    go_wp2_with fail
    go_ret
    exact ⟨by simp [rngB, B.out, T.out], (Fr0.refl w).alloc _⟩
  have k4 : (k == 4) = false := beq_eq_false_iff_ne.2 hk4
  clear hk4
  by_cases hk5 : k = 5
  · subst hk5
    by_cases t1 : t < 0
    · have T := Lib.hid (inT_false (l := l) (.inl t1))
      have e1 : decide (t < 0) = true := decide_eq_true t1
      go_enter Tryz.func75, Tryz.ntmps75
      go_wp2_with fail
      go_ret
      exact ⟨by simp [rngB, B.out, T.out], (Fr0.refl w).alloc _⟩
    have e1 : decide (t < 0) = false := decide_eq_false t1
    by_cases t2 : l < t
    · have T := Lib.hid (inT_false (t := t) (.inr t2))
      have e2 : decide (l < t) = true := decide_eq_true t2
      go_enter Tryz.func75, Tryz.ntmps75
      go_wp2_with fail
      go_ret
      exact ⟨by simp [rngB, B.out, T.out], (Fr0.refl w).alloc _⟩
    have e2 : decide (l < t) = false := decide_eq_false t2
    have T := Lib.hid (inT_true (l := l) (t := t) (by omega) (by omega))
    by_cases t3 : t ≤ a
    · have P := Lib.hid (apB_true (a := a) (n := n) (t := t) (.inl t3))
      have e4 : decide (t ≤ a) = true := decide_eq_true t3
      go_enter Tryz.func75, Tryz.ntmps75
      go_wp2_with fail
      go_ret
      exact ⟨by simp [rngB, B.out, T.out, P.out], (Fr0.refl w).alloc _⟩
    have e4 : decide (t ≤ a) = false := decide_eq_false t3
    by_cases t4 : a + n ≤ t
    · have P := Lib.hid (apB_true (a := a) (n := n) (t := t) (.inr t4))
      have e5 : decide (a + n ≤ t) = true := decide_eq_true t4
      go_enter Tryz.func75, Tryz.ntmps75
      go_wp2_with fail
      go_ret
      exact ⟨by simp [rngB, B.out, T.out, P.out], (Fr0.refl w).alloc _⟩
    have P := Lib.hid (apB_false (a := a) (n := n) (t := t) (by omega))
    have e5 : decide (a + n ≤ t) = false := decide_eq_false t4
    go_enter Tryz.func75, Tryz.ntmps75
    go_wp2_with fail
    go_ret
    exact ⟨by simp [rngB, B.out, T.out, P.out], (Fr0.refl w).alloc _⟩
  have k5 : (k == 5) = false := beq_eq_false_iff_ne.2 hk5
  have k6 : (k != 5) = true := by simpa using hk5
  clear hk5
  go_enter Tryz.func75, Tryz.ntmps75
  go_wp2_with fail
  go_ret
  exact ⟨by simp [rngB, B.out, k4, k5, k6], (Fr0.refl w).alloc _⟩

end Go.Proofs.YtclpndigmidjkaaGreat

/- The walks of the reference's Length and of edit.Length, in all cases. -/
set_option linter.unusedSimpArgs false
set_option linter.unusedVariables false
namespace Go.Proofs.YtclpndigmidjkaaGreat
open Go.RowKit

/-- The length after an edit with the right fields. -/
def totE (l k n wl : Int) : Int := if k = 4 then l + n else if k = 5 then l else l - n + wl
/-- The number of the error of an edit. -/
def errE (l k a n t x wl : Int) : Int := if frmB k n t x = false then 4 else if witB l k a n t = false then 1 else if 1152921504606846976 < totE l k n wl then 2 else 0
def valE (l k a n t x wl : Int) : Int := if errE l k a n t x wl = 0 then totE l k n wl else 0

theorem errE_form {l k a n t x wl : Int} (h : frmB k n t x = false) : errE l k a n t x wl = 4 ∧ valE l k a n t x wl = 0 := by
  have e : errE l k a n t x wl = 4 := if_pos h
  exact ⟨e, by unfold valE; rw [e]; rfl⟩
theorem errE_range {l k a n t x wl : Int} (h : frmB k n t x = true) (h2 : witB l k a n t = false) : errE l k a n t x wl = 1 ∧ valE l k a n t x wl = 0 := by
  have e : errE l k a n t x wl = 1 := by unfold errE; rw [h, h2]; rfl
  exact ⟨e, by unfold valE; rw [e]; rfl⟩
theorem errE_long {l k a n t x wl v : Int} (h : frmB k n t x = true) (h2 : witB l k a n t = true) (ht : totE l k n wl = v) (h3 : 1152921504606846976 < v) : errE l k a n t x wl = 2 ∧ valE l k a n t x wl = 0 := by
  have e : errE l k a n t x wl = 2 := by unfold errE; rw [h, h2, ht, if_neg (by simp), if_neg (by simp), if_pos h3]
  exact ⟨e, by unfold valE; rw [e]; rfl⟩
theorem errE_ok {l k a n t x wl v : Int} (h : frmB k n t x = true) (h2 : witB l k a n t = true) (ht : totE l k n wl = v) (h3 : ¬ 1152921504606846976 < v) : errE l k a n t x wl = 0 ∧ valE l k a n t x wl = v := by
  have e : errE l k a n t x wl = 0 := by unfold errE; rw [h, h2, ht, if_neg (by simp), if_neg (by simp), if_neg h3]
  exact ⟨e, by unfold valE; rw [e, if_pos rfl, ht]⟩

theorem frm_kind {k n t x : Int} (h : frmB k n t x = true) : (k = 1 ∧ n = 0 ∧ t = 0) ∨ (k = 2 ∧ t = 0 ∧ x = 0) ∨ (k = 3 ∧ t = 0) ∨ (k = 4 ∧ x = 0) ∨ (k = 5 ∧ x = 0) := by
  unfold frmB at h
  simp only [Bool.or_eq_true, Bool.and_eq_true, beq_iff_eq] at h
  omega
theorem wit_facts {l k a n t : Int} (h : witB l k a n t = true) : (0 ≤ a ∧ 0 ≤ n ∧ a + n ≤ l) ∧ 0 ≤ t ∧ t ≤ l ∧ (k ≠ 5 ∨ t ≤ a ∨ a + n ≤ t) := by
  unfold witB inR inT apB at h
  simp only [Bool.or_eq_true, Bool.and_eq_true, decide_eq_true_eq, bne_iff_ne] at h
  exact ⟨h.1, h.2.1.1, h.2.1.2, h.2.2⟩
theorem rng_wit {l k a n t x : Int} (h : frmB k n t x = true) (h0 : 0 ≤ l) : rngB l k a n t = witB l k a n t := by
  unfold rngB witB
  rcases frm_kind h with ⟨rfl, _, rfl⟩ | ⟨rfl, rfl, _⟩ | ⟨rfl, rfl⟩ | ⟨rfl, _⟩ | ⟨rfl, _⟩
  all_goals simp [inT, h0]

set_option maxRecDepth 100000 in
set_option maxHeartbeats 2000000 in
theorem ref36_Length (l k a n t x wl : Int) (w : World) (h0 : 0 ≤ l) (h1 : l ≤ 1152921504606846976) (hw0 : 0 ≤ wl) (hw1 : wl ≤ 1152921504606846976) (hx : x = 0 → wl = 0) :
    Calls Tryz.prog 39 #[.int .i64 l, .agg #[.int .i64 k, .int .i64 a, .int .i64 n, .int .i64 t, .int .i64 x], .int .i64 wl] w fun e w' => e = .returned (.tuple #[.int .i64 (valE l k a n t x wl), .int .i64 (errE l k a n t x wl)]) ∧ Fr0 w w' := by
  have CF := Lib.hid (fun W => ref36_Formed k a n t x W)
  have CR := Lib.hid (fun W => ref36_Ranged l k a n t x W h0 h1)
  cases hf : frmB k n t x with
  | false =>
    rw [hf] at CF
    rw [(errE_form hf).1, (errE_form hf).2]
    clear hf hx
    go_enter Tryz.func39, Tryz.ntmps39
    go_wp2_with fail
    refine (CF.out _).mono ?_
    rintro e w1 ⟨rfl, f1⟩
    have hr1 := f1.kept (b := w.heap.size) (alloc_at w _ _ rfl)
    have F1 := ((Fr0.refl w).alloc _).trans f1
    clear f1
    obtain ⟨r1, r2, r3, r4, r5, lr⟩ := cells5 hr1
    go_wp2_with fail
    go_ret2
    exact ⟨by first | rfl | simp, F1⟩
  | true =>
    rw [hf] at CF
    rw [rng_wit hf h0] at CR
    cases hw : witB l k a n t with
    | false =>
      rw [hw] at CR
      rw [(errE_range hf hw).1, (errE_range hf hw).2]
      clear hf hw hx
      go_enter Tryz.func39, Tryz.ntmps39
      go_wp2_with fail
      refine (CF.out _).mono ?_
      rintro e w1 ⟨rfl, f1⟩
      have hr1 := f1.kept (b := w.heap.size) (alloc_at w _ _ rfl)
      have F1 := ((Fr0.refl w).alloc _).trans f1
      clear f1
      obtain ⟨r1, r2, r3, r4, r5, lr⟩ := cells5 hr1
      go_wp2_with fail
      refine (CR.out _).mono ?_
      rintro e w2 ⟨rfl, f2⟩
      have hr2 := f2.kept hr1
      have F2 := F1.trans f2
      clear r1 r2 r3 r4 r5 lr hr1 F1 f2
      obtain ⟨r1, r2, r3, r4, r5, lr⟩ := cells5 hr2
      go_wp2_with fail
      go_ret2
      exact ⟨by first | rfl | simp, F2⟩
    | true =>
      rw [hw] at CR
      obtain ⟨⟨g1, g2, g3⟩, g4, g5, _⟩ := wit_facts hw
      by_cases k4 : k = 4
      · subst k4
        have HT := Lib.hid (show totE l 4 n wl = l + n from rfl)
        by_cases hv : 1152921504606846976 < l + n
        · rw [(errE_long hf hw HT.out hv).1, (errE_long hf hw HT.out hv).2]
          have e9 : decide (1152921504606846976 - l < n) = true := decide_eq_true (by omega)
          clear hf hw HT hv hx
          go_enter Tryz.func39, Tryz.ntmps39
          go_wp2_with fail
          refine (CF.out _).mono ?_
          rintro e w1 ⟨rfl, f1⟩
          have hr1 := f1.kept (b := w.heap.size) (alloc_at w _ _ rfl)
          have F1 := ((Fr0.refl w).alloc _).trans f1
          clear f1
          obtain ⟨r1, r2, r3, r4, r5, lr⟩ := cells5 hr1
          go_wp2_with fail
          refine (CR.out _).mono ?_
          rintro e w2 ⟨rfl, f2⟩
          have hr2 := f2.kept hr1
          have F2 := F1.trans f2
          clear r1 r2 r3 r4 r5 lr hr1 F1 f2
          obtain ⟨r1, r2, r3, r4, r5, lr⟩ := cells5 hr2
          go_wp2_with fail
          go_ret2
          exact ⟨by first | rfl | simp, F2⟩
        · rw [(errE_ok hf hw HT.out hv).1, (errE_ok hf hw HT.out hv).2]
          have e9 : decide (1152921504606846976 - l < n) = false := decide_eq_false (by omega)
          have hv2 : l + n ≤ 1152921504606846976 := by omega
          clear hf hw HT hv hx
          go_enter Tryz.func39, Tryz.ntmps39
          go_wp2_with fail
          refine (CF.out _).mono ?_
          rintro e w1 ⟨rfl, f1⟩
          have hr1 := f1.kept (b := w.heap.size) (alloc_at w _ _ rfl)
          have F1 := ((Fr0.refl w).alloc _).trans f1
          clear f1
          obtain ⟨r1, r2, r3, r4, r5, lr⟩ := cells5 hr1
          go_wp2_with fail
          refine (CR.out _).mono ?_
          rintro e w2 ⟨rfl, f2⟩
          have hr2 := f2.kept hr1
          have F2 := F1.trans f2
          clear r1 r2 r3 r4 r5 lr hr1 F1 f2
          obtain ⟨r1, r2, r3, r4, r5, lr⟩ := cells5 hr2
          go_wp2_with fail
          go_ret2
          exact ⟨by first | rfl | simp, F2⟩
      have d4 : (k == 4) = false := beq_eq_false_iff_ne.2 k4
      by_cases k5 : k = 5
      · subst k5
        have HT := Lib.hid (show totE l 5 n wl = l from rfl)
        have hv : ¬ 1152921504606846976 < l := by omega
        rw [(errE_ok hf hw HT.out hv).1, (errE_ok hf hw HT.out hv).2]
        have e9 : decide (1152921504606846976 - l < 0) = false := decide_eq_false (by omega)
        clear hf hw HT hv hx k4 d4
        go_enter Tryz.func39, Tryz.ntmps39
        go_wp2_with fail
        refine (CF.out _).mono ?_
        rintro e w1 ⟨rfl, f1⟩
        have hr1 := f1.kept (b := w.heap.size) (alloc_at w _ _ rfl)
        have F1 := ((Fr0.refl w).alloc _).trans f1
        clear f1
        obtain ⟨r1, r2, r3, r4, r5, lr⟩ := cells5 hr1
        go_wp2_with fail
        refine (CR.out _).mono ?_
        rintro e w2 ⟨rfl, f2⟩
        have hr2 := f2.kept hr1
        have F2 := F1.trans f2
        clear r1 r2 r3 r4 r5 lr hr1 F1 f2
        obtain ⟨r1, r2, r3, r4, r5, lr⟩ := cells5 hr2
        go_wp2_with fail
        go_ret2
        exact ⟨by first | rfl | simp, F2⟩
      have d5 : (k == 5) = false := beq_eq_false_iff_ne.2 k5
      have HT := Lib.hid (show totE l k n wl = l - n + wl by unfold totE; rw [if_neg k4, if_neg k5])
      by_cases hv : 1152921504606846976 < l - n + wl
      · rw [(errE_long hf hw HT.out hv).1, (errE_long hf hw HT.out hv).2]
        have e9 : decide (1152921504606846976 - (l - n) < wl) = true := decide_eq_true (by omega)
        clear hf hw HT hv hx k4 k5
        go_enter Tryz.func39, Tryz.ntmps39
        go_wp2_with fail
        refine (CF.out _).mono ?_
        rintro e w1 ⟨rfl, f1⟩
        have hr1 := f1.kept (b := w.heap.size) (alloc_at w _ _ rfl)
        have F1 := ((Fr0.refl w).alloc _).trans f1
        clear f1
        obtain ⟨r1, r2, r3, r4, r5, lr⟩ := cells5 hr1
        go_wp2_with fail
        refine (CR.out _).mono ?_
        rintro e w2 ⟨rfl, f2⟩
        have hr2 := f2.kept hr1
        have F2 := F1.trans f2
        clear r1 r2 r3 r4 r5 lr hr1 F1 f2
        obtain ⟨r1, r2, r3, r4, r5, lr⟩ := cells5 hr2
        go_wp2_with fail
        go_ret2
        exact ⟨by first | rfl | simp, F2⟩
      · rw [(errE_ok hf hw HT.out hv).1, (errE_ok hf hw HT.out hv).2]
        have e9 : decide (1152921504606846976 - (l - n) < wl) = false := decide_eq_false (by omega)
        have hv2 : l - n + wl ≤ 1152921504606846976 := by omega
        clear hf hw HT hv hx k4 k5
        go_enter Tryz.func39, Tryz.ntmps39
        go_wp2_with fail
        refine (CF.out _).mono ?_
        rintro e w1 ⟨rfl, f1⟩
        have hr1 := f1.kept (b := w.heap.size) (alloc_at w _ _ rfl)
        have F1 := ((Fr0.refl w).alloc _).trans f1
        clear f1
        obtain ⟨r1, r2, r3, r4, r5, lr⟩ := cells5 hr1
        go_wp2_with fail
        refine (CR.out _).mono ?_
        rintro e w2 ⟨rfl, f2⟩
        have hr2 := f2.kept hr1
        have F2 := F1.trans f2
        clear r1 r2 r3 r4 r5 lr hr1 F1 f2
        obtain ⟨r1, r2, r3, r4, r5, lr⟩ := cells5 hr2
        go_wp2_with fail
        go_ret2
        exact ⟨by first | rfl | simp, F2⟩

theorem errV_zero : errV 0 = .nilIface := rfl

set_option maxRecDepth 100000 in
set_option maxHeartbeats 4000000 in
theorem edit_Length_all {B : Nat} {w : World} {p mb : Nat} {most : Int} {L : List Ent} (hS : Sto B w p mb most L) (hO : SOk L) (l k a n t x : Int) (hk : isKnown L x) (h0 : 0 ≤ l) (h1 : l ≤ 1152921504606846976) :
    Calls Tryz.prog 37 #[.pointer (some ⟨p, 0, none⟩), .int .i64 l, .agg #[.int .i64 k, .int .i64 a, .int .i64 n, .int .i64 t, .int .i64 x]] w fun e w' => e = .returned (.tuple #[.int .i64 (valE l k a n t x (entAt L x).wt.len), errV (errE l k a n t x (entAt L x).wt.len)]) ∧ Fr0 w w' := by
  have q := (hO.at x hk).1.len0
  have q' := (hO.at x hk).1.len1
  have hx0 : x = 0 → (entAt L x).wt.len = 0 := by rintro rfl; rfl
  have CW := Lib.hid (fun W (hW : Fr0 w W) => sto_Weight (hS.kept0 hW) x hk)
  generalize (entAt L x).wt = y at *
  have CV := Lib.hid (fun w => len_Valid_yes l w h0 h1)
  have CF := Lib.hid (fun W => edit_formed k a n t x W)
  have CI := Lib.hid (fun W => edit_within l k a n t x W h0 h1)
  clear hS hO hk
  cases hf : frmB k n t x with
  | false =>
    rw [hf] at CF
    rw [(errE_form hf).1, (errE_form hf).2]
    clear hf hx0
    go_enter Tryz.func37, Tryz.ntmps37
    go_wp2_with fail
    refine (CV.out _).mono ?_
    rintro e w' ⟨rfl, rfl⟩
    go_wp2_with fail
    refine (CW.out _ ((Fr0.refl w).alloc _)).mono ?_
    rintro e w1 ⟨rfl, f1⟩
    have hr1 := ((Fr0.refl w1).alloc (.cells #[.int .i64 y.len, .int .i64 y.lines, .int .i64 y.head, .int .i64 y.tail, .int .u64 y.val, .int .u64 y.scale] 157 (0, 0))).kept (f1.kept (b := w.heap.size) (alloc_at w _ _ rfl))
    have F1 := (((Fr0.refl w).alloc _).trans f1).alloc (.cells #[.int .i64 y.len, .int .i64 y.lines, .int .i64 y.head, .int .i64 y.tail, .int .u64 y.val, .int .u64 y.scale] 157 (0, 0))
    have hx1 := alloc_at w1 (.cells #[.int .i64 y.len, .int .i64 y.lines, .int .i64 y.head, .int .i64 y.tail, .int .u64 y.val, .int .u64 y.scale] 157 (0, 0)) _ rfl
    obtain ⟨r1, r2, r3, r4, r5, lr⟩ := cells5 hr1
    clear f1
    go_wp2_with fail
    refine (CF.out _).mono ?_
    rintro e w2 ⟨rfl, f2⟩
    go_wp2_with fail
    go_ret2
    exact ⟨by first | rfl | simp, F1.trans f2⟩
  | true =>
    rw [hf] at CF
    cases hw : witB l k a n t with
    | false =>
      rw [hw] at CI
      rw [(errE_range hf hw).1, (errE_range hf hw).2]
      clear hf hw hx0
      go_enter Tryz.func37, Tryz.ntmps37
      go_wp2_with fail
      refine (CV.out _).mono ?_
      rintro e w' ⟨rfl, rfl⟩
      go_wp2_with fail
      refine (CW.out _ ((Fr0.refl w).alloc _)).mono ?_
      rintro e w1 ⟨rfl, f1⟩
      have hr1 := ((Fr0.refl w1).alloc (.cells #[.int .i64 y.len, .int .i64 y.lines, .int .i64 y.head, .int .i64 y.tail, .int .u64 y.val, .int .u64 y.scale] 157 (0, 0))).kept (f1.kept (b := w.heap.size) (alloc_at w _ _ rfl))
      have F1 := (((Fr0.refl w).alloc _).trans f1).alloc (.cells #[.int .i64 y.len, .int .i64 y.lines, .int .i64 y.head, .int .i64 y.tail, .int .u64 y.val, .int .u64 y.scale] 157 (0, 0))
      have hx1 := alloc_at w1 (.cells #[.int .i64 y.len, .int .i64 y.lines, .int .i64 y.head, .int .i64 y.tail, .int .u64 y.val, .int .u64 y.scale] 157 (0, 0)) _ rfl
      obtain ⟨r1, r2, r3, r4, r5, lr⟩ := cells5 hr1
      clear f1
      go_wp2_with fail
      refine (CF.out _).mono ?_
      rintro e w2 ⟨rfl, f2⟩
      have hr2 := f2.kept hr1
      have hx2 := f2.kept hx1
      have F2 := F1.trans f2
      clear r1 r2 r3 r4 r5 lr hr1 hx1 F1 f2
      obtain ⟨r1, r2, r3, r4, r5, lr⟩ := cells5 hr2
      go_wp2_with fail
      refine (CI.out _).mono ?_
      rintro e w3 ⟨rfl, f3⟩
      go_wp2_with fail
      go_ret2
      exact ⟨by first | rfl | simp, F2.trans f3⟩
    | true =>
      rw [hw] at CI
      obtain ⟨⟨g1, g2, g3⟩, g4, g5, _⟩ := wit_facts hw
      by_cases k4 : k = 4
      · subst k4
        have HT := Lib.hid (show totE l 4 n y.len = l + n from rfl)
        by_cases hv : 1152921504606846976 < l + n
        · rw [(errE_long hf hw HT.out hv).1, (errE_long hf hw HT.out hv).2]
          have CA := Lib.hid (fun W => len_Add_long (l) (n) W (by omega) (by omega) (by omega) (by omega) (by omega))
          clear hf hw HT hv hx0
          go_enter Tryz.func37, Tryz.ntmps37
          go_wp2_with fail
          refine (CV.out _).mono ?_
          rintro e w' ⟨rfl, rfl⟩
          go_wp2_with fail
          refine (CW.out _ ((Fr0.refl w).alloc _)).mono ?_
          rintro e w1 ⟨rfl, f1⟩
          have hr1 := ((Fr0.refl w1).alloc (.cells #[.int .i64 y.len, .int .i64 y.lines, .int .i64 y.head, .int .i64 y.tail, .int .u64 y.val, .int .u64 y.scale] 157 (0, 0))).kept (f1.kept (b := w.heap.size) (alloc_at w _ _ rfl))
          have F1 := (((Fr0.refl w).alloc _).trans f1).alloc (.cells #[.int .i64 y.len, .int .i64 y.lines, .int .i64 y.head, .int .i64 y.tail, .int .u64 y.val, .int .u64 y.scale] 157 (0, 0))
          have hx1 := alloc_at w1 (.cells #[.int .i64 y.len, .int .i64 y.lines, .int .i64 y.head, .int .i64 y.tail, .int .u64 y.val, .int .u64 y.scale] 157 (0, 0)) _ rfl
          obtain ⟨r1, r2, r3, r4, r5, lr⟩ := cells5 hr1
          clear f1
          go_wp2_with fail
          refine (CF.out _).mono ?_
          rintro e w2 ⟨rfl, f2⟩
          have hr2 := f2.kept hr1
          have hx2 := f2.kept hx1
          have F2 := F1.trans f2
          clear r1 r2 r3 r4 r5 lr hr1 hx1 F1 f2
          obtain ⟨r1, r2, r3, r4, r5, lr⟩ := cells5 hr2
          go_wp2_with fail
          refine (CI.out _).mono ?_
          rintro e w3 ⟨rfl, f3⟩
          have hr3 := f3.kept hr2
          have hx3 := f3.kept hx2
          have F3 := F2.trans f3
          clear r1 r2 r3 r4 r5 lr hr2 hx2 F2 f3
          obtain ⟨r1, r2, r3, r4, r5, lr⟩ := cells5 hr3
          have y0 : w3.cell? ⟨w1.heap.size, 0, none⟩ = some (.int .i64 y.len) := by first | (rw [cell_of_block hx3]; done) | (rw [cell_of_block hx3]; rfl)
          clear hr3 hx3
          go_wp2_with fail
          refine (CA.out _).mono ?_
          rintro e w4 ⟨rfl, rfl⟩
          go_wp2_with fail
          go_ret2
          exact ⟨by first | rfl | simp, F3⟩
        · rw [(errE_ok hf hw HT.out hv).1, (errE_ok hf hw HT.out hv).2]
          have CA := Lib.hid (fun W => len_Add_ok (l) (n) W (by omega) (by omega) (by omega))
          clear hf hw HT hv hx0
          go_enter Tryz.func37, Tryz.ntmps37
          go_wp2_with fail
          refine (CV.out _).mono ?_
          rintro e w' ⟨rfl, rfl⟩
          go_wp2_with fail
          refine (CW.out _ ((Fr0.refl w).alloc _)).mono ?_
          rintro e w1 ⟨rfl, f1⟩
          have hr1 := ((Fr0.refl w1).alloc (.cells #[.int .i64 y.len, .int .i64 y.lines, .int .i64 y.head, .int .i64 y.tail, .int .u64 y.val, .int .u64 y.scale] 157 (0, 0))).kept (f1.kept (b := w.heap.size) (alloc_at w _ _ rfl))
          have F1 := (((Fr0.refl w).alloc _).trans f1).alloc (.cells #[.int .i64 y.len, .int .i64 y.lines, .int .i64 y.head, .int .i64 y.tail, .int .u64 y.val, .int .u64 y.scale] 157 (0, 0))
          have hx1 := alloc_at w1 (.cells #[.int .i64 y.len, .int .i64 y.lines, .int .i64 y.head, .int .i64 y.tail, .int .u64 y.val, .int .u64 y.scale] 157 (0, 0)) _ rfl
          obtain ⟨r1, r2, r3, r4, r5, lr⟩ := cells5 hr1
          clear f1
          go_wp2_with fail
          refine (CF.out _).mono ?_
          rintro e w2 ⟨rfl, f2⟩
          have hr2 := f2.kept hr1
          have hx2 := f2.kept hx1
          have F2 := F1.trans f2
          clear r1 r2 r3 r4 r5 lr hr1 hx1 F1 f2
          obtain ⟨r1, r2, r3, r4, r5, lr⟩ := cells5 hr2
          go_wp2_with fail
          refine (CI.out _).mono ?_
          rintro e w3 ⟨rfl, f3⟩
          have hr3 := f3.kept hr2
          have hx3 := f3.kept hx2
          have F3 := F2.trans f3
          clear r1 r2 r3 r4 r5 lr hr2 hx2 F2 f3
          obtain ⟨r1, r2, r3, r4, r5, lr⟩ := cells5 hr3
          have y0 : w3.cell? ⟨w1.heap.size, 0, none⟩ = some (.int .i64 y.len) := by first | (rw [cell_of_block hx3]; done) | (rw [cell_of_block hx3]; rfl)
          clear hr3 hx3
          go_wp2_with fail
          refine (CA.out _).mono ?_
          rintro e w4 ⟨rfl, rfl⟩
          go_wp2_with fail
          go_ret2
          exact ⟨by first | rfl | simp, F3⟩
      by_cases k2 : k = 2
      · subst k2
        have HT := Lib.hid (show totE l 2 n y.len = l - n + y.len from rfl)
        have g6 : 0 ≤ l - n := by omega
        by_cases hv : 1152921504606846976 < l - n + y.len
        · rw [(errE_long hf hw HT.out hv).1, (errE_long hf hw HT.out hv).2]
          have CA := Lib.hid (fun W => len_Add_long (l - n) (y.len) W (by omega) (by omega) (by omega) (by omega) (by omega))
          clear hf hw HT hv hx0 k4
          go_enter Tryz.func37, Tryz.ntmps37
          go_wp2_with fail
          refine (CV.out _).mono ?_
          rintro e w' ⟨rfl, rfl⟩
          go_wp2_with fail
          refine (CW.out _ ((Fr0.refl w).alloc _)).mono ?_
          rintro e w1 ⟨rfl, f1⟩
          have hr1 := ((Fr0.refl w1).alloc (.cells #[.int .i64 y.len, .int .i64 y.lines, .int .i64 y.head, .int .i64 y.tail, .int .u64 y.val, .int .u64 y.scale] 157 (0, 0))).kept (f1.kept (b := w.heap.size) (alloc_at w _ _ rfl))
          have F1 := (((Fr0.refl w).alloc _).trans f1).alloc (.cells #[.int .i64 y.len, .int .i64 y.lines, .int .i64 y.head, .int .i64 y.tail, .int .u64 y.val, .int .u64 y.scale] 157 (0, 0))
          have hx1 := alloc_at w1 (.cells #[.int .i64 y.len, .int .i64 y.lines, .int .i64 y.head, .int .i64 y.tail, .int .u64 y.val, .int .u64 y.scale] 157 (0, 0)) _ rfl
          obtain ⟨r1, r2, r3, r4, r5, lr⟩ := cells5 hr1
          clear f1
          go_wp2_with fail
          refine (CF.out _).mono ?_
          rintro e w2 ⟨rfl, f2⟩
          have hr2 := f2.kept hr1
          have hx2 := f2.kept hx1
          have F2 := F1.trans f2
          clear r1 r2 r3 r4 r5 lr hr1 hx1 F1 f2
          obtain ⟨r1, r2, r3, r4, r5, lr⟩ := cells5 hr2
          go_wp2_with fail
          refine (CI.out _).mono ?_
          rintro e w3 ⟨rfl, f3⟩
          have hr3 := f3.kept hr2
          have hx3 := f3.kept hx2
          have F3 := F2.trans f3
          clear r1 r2 r3 r4 r5 lr hr2 hx2 F2 f3
          obtain ⟨r1, r2, r3, r4, r5, lr⟩ := cells5 hr3
          have y0 : w3.cell? ⟨w1.heap.size, 0, none⟩ = some (.int .i64 y.len) := by first | (rw [cell_of_block hx3]; done) | (rw [cell_of_block hx3]; rfl)
          clear hr3 hx3
          go_wp2_with fail
          refine (CA.out _).mono ?_
          rintro e w4 ⟨rfl, rfl⟩
          go_wp2_with fail
          go_ret2
          exact ⟨by first | rfl | simp, F3⟩
        · rw [(errE_ok hf hw HT.out hv).1, (errE_ok hf hw HT.out hv).2]
          have CA := Lib.hid (fun W => len_Add_ok (l - n) (y.len) W (by omega) (by omega) (by omega))
          clear hf hw HT hv hx0 k4
          go_enter Tryz.func37, Tryz.ntmps37
          go_wp2_with fail
          refine (CV.out _).mono ?_
          rintro e w' ⟨rfl, rfl⟩
          go_wp2_with fail
          refine (CW.out _ ((Fr0.refl w).alloc _)).mono ?_
          rintro e w1 ⟨rfl, f1⟩
          have hr1 := ((Fr0.refl w1).alloc (.cells #[.int .i64 y.len, .int .i64 y.lines, .int .i64 y.head, .int .i64 y.tail, .int .u64 y.val, .int .u64 y.scale] 157 (0, 0))).kept (f1.kept (b := w.heap.size) (alloc_at w _ _ rfl))
          have F1 := (((Fr0.refl w).alloc _).trans f1).alloc (.cells #[.int .i64 y.len, .int .i64 y.lines, .int .i64 y.head, .int .i64 y.tail, .int .u64 y.val, .int .u64 y.scale] 157 (0, 0))
          have hx1 := alloc_at w1 (.cells #[.int .i64 y.len, .int .i64 y.lines, .int .i64 y.head, .int .i64 y.tail, .int .u64 y.val, .int .u64 y.scale] 157 (0, 0)) _ rfl
          obtain ⟨r1, r2, r3, r4, r5, lr⟩ := cells5 hr1
          clear f1
          go_wp2_with fail
          refine (CF.out _).mono ?_
          rintro e w2 ⟨rfl, f2⟩
          have hr2 := f2.kept hr1
          have hx2 := f2.kept hx1
          have F2 := F1.trans f2
          clear r1 r2 r3 r4 r5 lr hr1 hx1 F1 f2
          obtain ⟨r1, r2, r3, r4, r5, lr⟩ := cells5 hr2
          go_wp2_with fail
          refine (CI.out _).mono ?_
          rintro e w3 ⟨rfl, f3⟩
          have hr3 := f3.kept hr2
          have hx3 := f3.kept hx2
          have F3 := F2.trans f3
          clear r1 r2 r3 r4 r5 lr hr2 hx2 F2 f3
          obtain ⟨r1, r2, r3, r4, r5, lr⟩ := cells5 hr3
          have y0 : w3.cell? ⟨w1.heap.size, 0, none⟩ = some (.int .i64 y.len) := by first | (rw [cell_of_block hx3]; done) | (rw [cell_of_block hx3]; rfl)
          clear hr3 hx3
          go_wp2_with fail
          refine (CA.out _).mono ?_
          rintro e w4 ⟨rfl, rfl⟩
          go_wp2_with fail
          go_ret2
          exact ⟨by first | rfl | simp, F3⟩
      by_cases k3 : k = 3
      · subst k3
        have HT := Lib.hid (show totE l 3 n y.len = l - n + y.len from rfl)
        have g6 : 0 ≤ l - n := by omega
        by_cases hv : 1152921504606846976 < l - n + y.len
        · rw [(errE_long hf hw HT.out hv).1, (errE_long hf hw HT.out hv).2]
          have CA := Lib.hid (fun W => len_Add_long (l - n) (y.len) W (by omega) (by omega) (by omega) (by omega) (by omega))
          clear hf hw HT hv hx0 k4 k2
          go_enter Tryz.func37, Tryz.ntmps37
          go_wp2_with fail
          refine (CV.out _).mono ?_
          rintro e w' ⟨rfl, rfl⟩
          go_wp2_with fail
          refine (CW.out _ ((Fr0.refl w).alloc _)).mono ?_
          rintro e w1 ⟨rfl, f1⟩
          have hr1 := ((Fr0.refl w1).alloc (.cells #[.int .i64 y.len, .int .i64 y.lines, .int .i64 y.head, .int .i64 y.tail, .int .u64 y.val, .int .u64 y.scale] 157 (0, 0))).kept (f1.kept (b := w.heap.size) (alloc_at w _ _ rfl))
          have F1 := (((Fr0.refl w).alloc _).trans f1).alloc (.cells #[.int .i64 y.len, .int .i64 y.lines, .int .i64 y.head, .int .i64 y.tail, .int .u64 y.val, .int .u64 y.scale] 157 (0, 0))
          have hx1 := alloc_at w1 (.cells #[.int .i64 y.len, .int .i64 y.lines, .int .i64 y.head, .int .i64 y.tail, .int .u64 y.val, .int .u64 y.scale] 157 (0, 0)) _ rfl
          obtain ⟨r1, r2, r3, r4, r5, lr⟩ := cells5 hr1
          clear f1
          go_wp2_with fail
          refine (CF.out _).mono ?_
          rintro e w2 ⟨rfl, f2⟩
          have hr2 := f2.kept hr1
          have hx2 := f2.kept hx1
          have F2 := F1.trans f2
          clear r1 r2 r3 r4 r5 lr hr1 hx1 F1 f2
          obtain ⟨r1, r2, r3, r4, r5, lr⟩ := cells5 hr2
          go_wp2_with fail
          refine (CI.out _).mono ?_
          rintro e w3 ⟨rfl, f3⟩
          have hr3 := f3.kept hr2
          have hx3 := f3.kept hx2
          have F3 := F2.trans f3
          clear r1 r2 r3 r4 r5 lr hr2 hx2 F2 f3
          obtain ⟨r1, r2, r3, r4, r5, lr⟩ := cells5 hr3
          have y0 : w3.cell? ⟨w1.heap.size, 0, none⟩ = some (.int .i64 y.len) := by first | (rw [cell_of_block hx3]; done) | (rw [cell_of_block hx3]; rfl)
          clear hr3 hx3
          go_wp2_with fail
          refine (CA.out _).mono ?_
          rintro e w4 ⟨rfl, rfl⟩
          go_wp2_with fail
          go_ret2
          exact ⟨by first | rfl | simp, F3⟩
        · rw [(errE_ok hf hw HT.out hv).1, (errE_ok hf hw HT.out hv).2]
          have CA := Lib.hid (fun W => len_Add_ok (l - n) (y.len) W (by omega) (by omega) (by omega))
          clear hf hw HT hv hx0 k4 k2
          go_enter Tryz.func37, Tryz.ntmps37
          go_wp2_with fail
          refine (CV.out _).mono ?_
          rintro e w' ⟨rfl, rfl⟩
          go_wp2_with fail
          refine (CW.out _ ((Fr0.refl w).alloc _)).mono ?_
          rintro e w1 ⟨rfl, f1⟩
          have hr1 := ((Fr0.refl w1).alloc (.cells #[.int .i64 y.len, .int .i64 y.lines, .int .i64 y.head, .int .i64 y.tail, .int .u64 y.val, .int .u64 y.scale] 157 (0, 0))).kept (f1.kept (b := w.heap.size) (alloc_at w _ _ rfl))
          have F1 := (((Fr0.refl w).alloc _).trans f1).alloc (.cells #[.int .i64 y.len, .int .i64 y.lines, .int .i64 y.head, .int .i64 y.tail, .int .u64 y.val, .int .u64 y.scale] 157 (0, 0))
          have hx1 := alloc_at w1 (.cells #[.int .i64 y.len, .int .i64 y.lines, .int .i64 y.head, .int .i64 y.tail, .int .u64 y.val, .int .u64 y.scale] 157 (0, 0)) _ rfl
          obtain ⟨r1, r2, r3, r4, r5, lr⟩ := cells5 hr1
          clear f1
          go_wp2_with fail
          refine (CF.out _).mono ?_
          rintro e w2 ⟨rfl, f2⟩
          have hr2 := f2.kept hr1
          have hx2 := f2.kept hx1
          have F2 := F1.trans f2
          clear r1 r2 r3 r4 r5 lr hr1 hx1 F1 f2
          obtain ⟨r1, r2, r3, r4, r5, lr⟩ := cells5 hr2
          go_wp2_with fail
          refine (CI.out _).mono ?_
          rintro e w3 ⟨rfl, f3⟩
          have hr3 := f3.kept hr2
          have hx3 := f3.kept hx2
          have F3 := F2.trans f3
          clear r1 r2 r3 r4 r5 lr hr2 hx2 F2 f3
          obtain ⟨r1, r2, r3, r4, r5, lr⟩ := cells5 hr3
          have y0 : w3.cell? ⟨w1.heap.size, 0, none⟩ = some (.int .i64 y.len) := by first | (rw [cell_of_block hx3]; done) | (rw [cell_of_block hx3]; rfl)
          clear hr3 hx3
          go_wp2_with fail
          refine (CA.out _).mono ?_
          rintro e w4 ⟨rfl, rfl⟩
          go_wp2_with fail
          go_ret2
          exact ⟨by first | rfl | simp, F3⟩
      have HT : Hid (totE l k n y.len = l + y.len) := by
        show _ = _
        unfold totE
        rw [if_neg k4]
        rcases frm_kind hf with h | h | h | h | h
        · rw [if_neg (by omega)]; omega
        · omega
        · omega
        · omega
        · rw [if_pos h.1]; have := hx0 h.2; omega
      have d2 : (k == 2) = false := beq_eq_false_iff_ne.2 k2
      have d3 : (k == 3) = false := beq_eq_false_iff_ne.2 k3
      have d4 : (k == 4) = false := beq_eq_false_iff_ne.2 k4
      by_cases hv : 1152921504606846976 < l + y.len
      · rw [(errE_long hf hw HT.out hv).1, (errE_long hf hw HT.out hv).2]
        have CA := Lib.hid (fun W => len_Add_long (l) (y.len) W (by omega) (by omega) (by omega) (by omega) (by omega))
        clear hf hw HT hv hx0 k2 k3 k4
        go_enter Tryz.func37, Tryz.ntmps37
        go_wp2_with fail
        refine (CV.out _).mono ?_
        rintro e w' ⟨rfl, rfl⟩
        go_wp2_with fail
        refine (CW.out _ ((Fr0.refl w).alloc _)).mono ?_
        rintro e w1 ⟨rfl, f1⟩
        have hr1 := ((Fr0.refl w1).alloc (.cells #[.int .i64 y.len, .int .i64 y.lines, .int .i64 y.head, .int .i64 y.tail, .int .u64 y.val, .int .u64 y.scale] 157 (0, 0))).kept (f1.kept (b := w.heap.size) (alloc_at w _ _ rfl))
        have F1 := (((Fr0.refl w).alloc _).trans f1).alloc (.cells #[.int .i64 y.len, .int .i64 y.lines, .int .i64 y.head, .int .i64 y.tail, .int .u64 y.val, .int .u64 y.scale] 157 (0, 0))
        have hx1 := alloc_at w1 (.cells #[.int .i64 y.len, .int .i64 y.lines, .int .i64 y.head, .int .i64 y.tail, .int .u64 y.val, .int .u64 y.scale] 157 (0, 0)) _ rfl
        obtain ⟨r1, r2, r3, r4, r5, lr⟩ := cells5 hr1
        clear f1
        go_wp2_with fail
        refine (CF.out _).mono ?_
        rintro e w2 ⟨rfl, f2⟩
        have hr2 := f2.kept hr1
        have hx2 := f2.kept hx1
        have F2 := F1.trans f2
        clear r1 r2 r3 r4 r5 lr hr1 hx1 F1 f2
        obtain ⟨r1, r2, r3, r4, r5, lr⟩ := cells5 hr2
        go_wp2_with fail
        refine (CI.out _).mono ?_
        rintro e w3 ⟨rfl, f3⟩
        have hr3 := f3.kept hr2
        have hx3 := f3.kept hx2
        have F3 := F2.trans f3
        clear r1 r2 r3 r4 r5 lr hr2 hx2 F2 f3
        obtain ⟨r1, r2, r3, r4, r5, lr⟩ := cells5 hr3
        have y0 : w3.cell? ⟨w1.heap.size, 0, none⟩ = some (.int .i64 y.len) := by first | (rw [cell_of_block hx3]; done) | (rw [cell_of_block hx3]; rfl)
        clear hr3 hx3
        go_wp2_with fail
        refine (CA.out _).mono ?_
        rintro e w4 ⟨rfl, rfl⟩
        go_wp2_with fail
        go_ret2
        exact ⟨by first | rfl | simp, F3⟩
      · rw [(errE_ok hf hw HT.out hv).1, (errE_ok hf hw HT.out hv).2]
        have CA := Lib.hid (fun W => len_Add_ok (l) (y.len) W (by omega) (by omega) (by omega))
        clear hf hw HT hv hx0 k2 k3 k4
        go_enter Tryz.func37, Tryz.ntmps37
        go_wp2_with fail
        refine (CV.out _).mono ?_
        rintro e w' ⟨rfl, rfl⟩
        go_wp2_with fail
        refine (CW.out _ ((Fr0.refl w).alloc _)).mono ?_
        rintro e w1 ⟨rfl, f1⟩
        have hr1 := ((Fr0.refl w1).alloc (.cells #[.int .i64 y.len, .int .i64 y.lines, .int .i64 y.head, .int .i64 y.tail, .int .u64 y.val, .int .u64 y.scale] 157 (0, 0))).kept (f1.kept (b := w.heap.size) (alloc_at w _ _ rfl))
        have F1 := (((Fr0.refl w).alloc _).trans f1).alloc (.cells #[.int .i64 y.len, .int .i64 y.lines, .int .i64 y.head, .int .i64 y.tail, .int .u64 y.val, .int .u64 y.scale] 157 (0, 0))
        have hx1 := alloc_at w1 (.cells #[.int .i64 y.len, .int .i64 y.lines, .int .i64 y.head, .int .i64 y.tail, .int .u64 y.val, .int .u64 y.scale] 157 (0, 0)) _ rfl
        obtain ⟨r1, r2, r3, r4, r5, lr⟩ := cells5 hr1
        clear f1
        go_wp2_with fail
        refine (CF.out _).mono ?_
        rintro e w2 ⟨rfl, f2⟩
        have hr2 := f2.kept hr1
        have hx2 := f2.kept hx1
        have F2 := F1.trans f2
        clear r1 r2 r3 r4 r5 lr hr1 hx1 F1 f2
        obtain ⟨r1, r2, r3, r4, r5, lr⟩ := cells5 hr2
        go_wp2_with fail
        refine (CI.out _).mono ?_
        rintro e w3 ⟨rfl, f3⟩
        have hr3 := f3.kept hr2
        have hx3 := f3.kept hx2
        have F3 := F2.trans f3
        clear r1 r2 r3 r4 r5 lr hr2 hx2 F2 f3
        obtain ⟨r1, r2, r3, r4, r5, lr⟩ := cells5 hr3
        have y0 : w3.cell? ⟨w1.heap.size, 0, none⟩ = some (.int .i64 y.len) := by first | (rw [cell_of_block hx3]; done) | (rw [cell_of_block hx3]; rfl)
        clear hr3 hx3
        go_wp2_with fail
        refine (CA.out _).mono ?_
        rintro e w4 ⟨rfl, rfl⟩
        go_wp2_with fail
        go_ret2
        exact ⟨by first | rfl | simp, F3⟩

set_option maxRecDepth 100000 in
set_option maxHeartbeats 1000000 in
theorem edit_Length_range {w : World} {p : Nat} (l : Int) (h : l < 0 ∨ 1152921504606846976 < l) (v0 v1 v2 v3 v4 : Int) :
    Calls Tryz.prog 37 #[.pointer (some ⟨p, 0, none⟩), .int .i64 l, .agg #[.int .i64 v0, .int .i64 v1, .int .i64 v2, .int .i64 v3, .int .i64 v4]] w fun e w' => e = .returned (.tuple #[.int .i64 0, .iface 52 (.int .i64 1)]) ∧ Fr0 w w' := by
  have CV := Lib.hid (fun w => len_Valid_no l w h)
  clear h
  go_enter Tryz.func37, Tryz.ntmps37
  go_wp2_with fail
  refine (CV.out _).mono ?_
  rintro e w' ⟨rfl, rfl⟩
  go_wp2_with fail
  go_ret2
  exact ⟨rfl, (Fr0.refl w).alloc _⟩

set_option maxRecDepth 100000 in
set_option maxHeartbeats 1000000 in
theorem edit_Length_unknown {B : Nat} {w : World} {p mb : Nat} {most : Int} {L : List Ent} (hS : Sto B w p mb most L) (l k a n t x : Int) (hk : ¬ isKnown L x) (h0 : 0 ≤ l) (h1 : l ≤ 1152921504606846976) :
    Calls Tryz.prog 37 #[.pointer (some ⟨p, 0, none⟩), .int .i64 l, .agg #[.int .i64 k, .int .i64 a, .int .i64 n, .int .i64 t, .int .i64 x]] w fun e w' => e = .returned (.tuple #[.int .i64 0, .iface 52 (.int .i64 1)]) ∧ Fr0 w w' := by
  obtain ⟨sv, hs, _⟩ := hS
  have CW := Lib.hid (fun W (hW : Fr0 w W) => st_Weight_no (hs.kept0 hW) x hk)
  have CV := Lib.hid (fun w => len_Valid_yes l w h0 h1)
  clear hs hk
  go_enter Tryz.func37, Tryz.ntmps37
  go_wp2_with fail
  refine (CV.out _).mono ?_
  rintro e w' ⟨rfl, rfl⟩
  go_wp2_with fail
  refine (CW.out _ ((Fr0.refl w).alloc _)).mono ?_
  rintro e w1 ⟨rfl, f1⟩
  go_wp2_with fail
  go_ret2
  exact ⟨rfl, (((Fr0.refl w).alloc _).trans f1).alloc _⟩

end Go.Proofs.YtclpndigmidjkaaGreat

/- The rows of the distance (plain): what the program's rows hold, and that they find the distance, also along every shortest way. -/
import Derived.Test.YtodmpcnpedpheaaDoorQSg3
import Derived.Test.YtodmpcnpedpheaaDoorQBof0
import Derived.Test.YtodmpcnpedpheaaDoorQSg0
namespace Go.Proofs.YtodmpcnpedpheaaDoor

/-- The length of the common prefix. -/
def cpl : List Int → List Int → Nat
  | x :: a, y :: b => if x = y then cpl a b + 1 else 0
  | [], _ => 0
  | _ :: _, [] => 0

theorem cpl_le : ∀ a b, cpl a b ≤ a.length ∧ cpl a b ≤ b.length
  | [], b => by simp [cpl]
  | _ :: _, [] => by simp [cpl]
  | x :: a, y :: b => by
    have h := cpl_le a b
    unfold cpl
    simp only [List.length_cons]
    split <;> omega

theorem cpl_get : ∀ a b i, i < cpl a b → a.getD i 0 = b.getD i 0
  | [], b, i => by simp [cpl]
  | _ :: _, [], i => by simp [cpl]
  | x :: a, y :: b, i => by
    unfold cpl
    split
    · rename_i h
      intro hi
      cases i with
      | zero => simpa using h
      | succ i =>
        have := cpl_get a b i (by omega)
        simpa using this
    · intro h; omega

theorem cpl_max : ∀ a b j, j ≤ a.length → j ≤ b.length → (∀ i, i < j → a.getD i 0 = b.getD i 0) → j ≤ cpl a b
  | [], b, j => by intro h; simp at h; omega
  | _ :: _, [], j => by intro _ h; simp at h; omega
  | x :: a, y :: b, j => by
    intro h1 h2 h
    cases j with
    | zero => omega
    | succ j =>
      have h0 := h 0 (by omega)
      simp at h0
      have := cpl_max a b j (by simpa using h1) (by simpa using h2) (fun i hi => by simpa using h (i + 1) (by omega))
      unfold cpl
      rw [if_pos h0]
      omega

theorem cpl_stop (a b : List Int) (h1 : cpl a b < a.length) (h2 : cpl a b < b.length) : a.getD (cpl a b) 0 ≠ b.getD (cpl a b) 0 := by
  intro e
  have := cpl_max a b (cpl a b + 1) h1 h2 (fun i hi => by
    rcases Nat.lt_or_ge i (cpl a b) with c | c
    · exact cpl_get a b i c
    · rw [show i = cpl a b by omega]; exact e)
  omega

/-- The length of the common suffix of what lies ahead of two offsets. -/
def csl (A B : List Int) (x y : Nat) : Nat := cpl (A.take x).reverse (B.take y).reverse

theorem rev_take_getD (A : List Int) {x i : Nat} (hx : x ≤ A.length) (hi : i < x) : (A.take x).reverse.getD i 0 = A.getD (x - 1 - i) 0 := by
  have hl : (A.take x).length = x := by rw [List.length_take]; omega
  rw [List.getD_eq_getElem?_getD, List.getD_eq_getElem?_getD, List.getElem?_reverse (by rw [hl]; exact hi), hl, List.getElem?_take_of_lt (by omega)]

theorem csl_le (A B : List Int) (x y : Nat) : csl A B x y ≤ x ∧ csl A B x y ≤ y := by
  have h := cpl_le (A.take x).reverse (B.take y).reverse
  rw [List.length_reverse, List.length_reverse, List.length_take, List.length_take] at h
  unfold csl
  omega

theorem csl_get (A B : List Int) {x y : Nat} (hx : x ≤ A.length) (hy : y ≤ B.length) (i : Nat) (hi : i < csl A B x y) : A.getD (x - 1 - i) 0 = B.getD (y - 1 - i) 0 := by
  have hle := csl_le A B x y
  have h := cpl_get _ _ i hi
  rwa [rev_take_getD A hx (by omega), rev_take_getD B hy (by omega)] at h

theorem csl_stop (A B : List Int) {x y : Nat} (hx : x ≤ A.length) (hy : y ≤ B.length) (h1 : csl A B x y < x) (h2 : csl A B x y < y) : A.getD (x - 1 - csl A B x y) 0 ≠ B.getD (y - 1 - csl A B x y) 0 := by
  have h : (A.take x).reverse.getD (csl A B x y) 0 ≠ (B.take y).reverse.getD (csl A B x y) 0 := cpl_stop (A.take x).reverse (B.take y).reverse (by rw [List.length_reverse, List.length_take]; unfold csl at h1; omega) (by rw [List.length_reverse, List.length_take]; unfold csl at h2; omega)
  rwa [rev_take_getD A hx h1, rev_take_getD B hy h2] at h

/-- The distance of what lies behind two offsets. -/
def edp (A B : List Int) (x y : Nat) : Nat := ed (A.drop x) (B.drop y)

theorem drop_cons (A : List Int) {x : Nat} (h : x < A.length) : A.drop x = A.getD x 0 :: A.drop (x + 1) := by
  rw [List.drop_eq_getElem_cons h, List.getD_eq_getElem?_getD, List.getElem?_eq_getElem h]; rfl

theorem edp_match (A B : List Int) {x y : Nat} (hx : x < A.length) (hy : y < B.length) (h : A.getD x 0 = B.getD y 0) : edp A B x y = edp A B (x + 1) (y + 1) := by
  unfold edp; rw [drop_cons A hx, drop_cons B hy, ed_eq _ _ h]

theorem edp_diff (A B : List Int) {x y : Nat} (hx : x < A.length) (hy : y < B.length) (h : A.getD x 0 ≠ B.getD y 0) : edp A B x y = 1 + min (edp A B (x + 1) y) (edp A B x (y + 1)) := by
  unfold edp; rw [drop_cons A hx, drop_cons B hy, ed_ne _ _ h]

theorem edp_endA (A B : List Int) {x y : Nat} (hx : A.length ≤ x) : edp A B x y = B.length - y := by
  unfold edp; rw [List.drop_eq_nil_of_le hx, ed_nl, List.length_drop]
theorem edp_endB (A B : List Int) {x y : Nat} (hy : B.length ≤ y) : edp A B x y = A.length - x := by
  unfold edp; rw [List.drop_eq_nil_of_le hy, ed_nr, List.length_drop]

theorem edp_diag (A B : List Int) {x y : Nat} (hx : x < A.length) (hy : y < B.length) : edp A B (x + 1) (y + 1) ≤ edp A B x y := by
  unfold edp; rw [drop_cons A hx, drop_cons B hy]; exact ed_diag _ _ _ _

theorem edp_diags (A B : List Int) (x y : Nat) : ∀ k, x + k ≤ A.length → y + k ≤ B.length → edp A B (x + k) (y + k) ≤ edp A B x y
  | 0, _, _ => Nat.le_refl _
  | k + 1, h1, h2 => Nat.le_trans (edp_diag A B (x := x + k) (y := y + k) (by omega) (by omega)) (edp_diags A B x y k (by omega) (by omega))

theorem edp_left (A B : List Int) {x y : Nat} (hx : x < A.length) : edp A B x y ≤ 1 + edp A B (x + 1) y := by
  unfold edp; rw [drop_cons A hx]; exact ed_consL _ _ _
theorem edp_right (A B : List Int) {x y : Nat} (hy : y < B.length) : edp A B x y ≤ 1 + edp A B x (y + 1) := by
  unfold edp; rw [drop_cons B hy]; exact ed_consR _ _ _

theorem edp_gap (A B : List Int) {x y : Nat} (hx : x ≤ A.length) (hy : y ≤ B.length) : (A.length : Int) - x ≤ B.length - y + edp A B x y ∧ (B.length : Int) - y ≤ A.length - x + edp A B x y := by
  have h := ed_gap (A.drop x) (B.drop y)
  rw [List.length_drop, List.length_drop] at h
  unfold edp
  omega

theorem edp_slide (A B : List Int) {x y : Nat} (hx : x ≤ A.length) (hy : y ≤ B.length) : ∀ j, j ≤ csl A B x y → edp A B (x - j) (y - j) = edp A B x y
  | 0, _ => rfl
  | j + 1, h => by
    have hl := csl_le A B x y
    have e := csl_get A B hx hy j h
    have ih := edp_slide A B hx hy j (by omega)
    have k1 : x - 1 - j = x - (j + 1) := by omega
    have k2 : y - 1 - j = y - (j + 1) := by omega
    rw [k1, k2] at e
    have m := edp_match A B (x := x - (j + 1)) (y := y - (j + 1)) (by omega) (by omega) e
    rw [show x - (j + 1) + 1 = x - j by omega, show y - (j + 1) + 1 = y - j by omega] at m
    rw [m, ih]

/-- A point on a shortest way from the beginnings. -/
inductive OP (A B : List Int) : Nat → Nat → Prop
  | zero : OP A B 0 0
  | keep {x y : Nat} : OP A B x y → x < A.length → y < B.length → A.getD x 0 = B.getD y 0 → OP A B (x + 1) (y + 1)
  | del {x y : Nat} : OP A B x y → x < A.length → edp A B x y = 1 + edp A B (x + 1) y → OP A B (x + 1) y
  | ins {x y : Nat} : OP A B x y → y < B.length → edp A B x y = 1 + edp A B x (y + 1) → OP A B x (y + 1)

theorem OP.le {A B : List Int} {x y : Nat} (h : OP A B x y) : x ≤ A.length ∧ y ≤ B.length := by
  induction h with
  | zero => exact ⟨Nat.zero_le _, Nat.zero_le _⟩
  | keep _ _ _ _ _ => omega
  | del _ _ _ _ => omega
  | ins _ _ _ _ => omega

theorem OP.gap {A B : List Int} {x y : Nat} (h : OP A B x y) : (x : Int) - y + edp A B x y ≤ edp A B 0 0 ∧ (y : Int) - x + edp A B x y ≤ edp A B 0 0 := by
  induction h with
  | zero => omega
  | keep _ h1 h2 h3 ih => have := edp_match A B h1 h2 h3; omega
  | del _ _ _ ih => omega
  | ins _ _ _ ih => omega

/-- The way has crossed every diagonal between, at a greater distance. -/
theorem OP.cross {A B : List Int} {x y : Nat} (h : OP A B x y) : ∀ d : Int, ((x : Int) - y < d ∧ d ≤ 0) ∨ (0 ≤ d ∧ d < (x : Int) - y) →
    ∃ x' y' : Nat, x' ≤ A.length ∧ y' ≤ B.length ∧ (x' : Int) - y' = d ∧ edp A B x y + 1 ≤ edp A B x' y' := by
  induction h with
  | zero => intro d hd; omega
  | keep h0 h1 h2 h3 ih =>
    intro d hd
    obtain ⟨x', y', g1, g2, g3, g4⟩ := ih d (by omega)
    have := edp_match A B h1 h2 h3
    exact ⟨x', y', g1, g2, g3, by omega⟩
  | @del x y h0 h1 h2 ih =>
    intro d hd
    by_cases c : d = (x : Int) - y
    · exact ⟨x, y, h0.le.1, h0.le.2, c.symm, by omega⟩
    · obtain ⟨x', y', g1, g2, g3, g4⟩ := ih d (by omega)
      exact ⟨x', y', g1, g2, g3, by omega⟩
  | @ins x y h0 h1 h2 ih =>
    intro d hd
    by_cases c : d = (x : Int) - y
    · exact ⟨x, y, h0.le.1, h0.le.2, c.symm, by omega⟩
    · obtain ⟨x', y', g1, g2, g3, g4⟩ := ih d (by omega)
      exact ⟨x', y', g1, g2, g3, by omega⟩

/-- The number that stands for an offset that is not reached. -/
def NONE : Int := 1152921504606846977

/-- The least offset that one more edit reaches, of those of the rows before. -/
def x1F (p : Int) : Int := if p ≠ NONE ∧ 0 < p then min NONE (p - 1) else NONE
def x2F (p q d : Int) : Int := if q ≠ NONE ∧ d - 1 < q then min (x1F p) q else x1F p
def x3F (p q r d : Int) : Int := min (x2F p q d) r
def stpF (p q r d : Int) : Int := if x3F p q r d < max d 0 then NONE else x3F p q r d

/-- Equal letters are skipped, backward. -/
def sldF (A B : List Int) (d x : Int) : Int := if x = NONE then NONE else x - csl A B x.toNat (x - d).toNat

def dlow (A B : List Int) (e : Nat) : Int := max ((A.length : Int) - B.length - e) (-(256 - (e : Int)))
def dhigh (A B : List Int) (e : Nat) : Int := min ((A.length : Int) - B.length + e) (256 - (e : Int))

/-- The row of a number of edits, at a diagonal. -/
def atF (A B : List Int) : Nat → Int → Int
  | 0, d => if dlow A B 0 ≤ d ∧ d ≤ dhigh A B 0 then sldF A B d (if d = (A.length : Int) - B.length then A.length else NONE) else NONE
  | 1, d => if dlow A B 1 ≤ d ∧ d ≤ dhigh A B 1 then sldF A B d (stpF (atF A B 0 (d + 1)) (atF A B 0 (d - 1)) NONE d) else NONE
  | e + 2, d => if dlow A B (e + 2) ≤ d ∧ d ≤ dhigh A B (e + 2) then sldF A B d (stpF (atF A B (e + 1) (d + 1)) (atF A B (e + 1) (d - 1)) (atF A B e d) d) else NONE

/-- A cell is nothing, or an offset from which the ends are reached with so many edits. -/
def Cell (A B : List Int) (e : Nat) (d v : Int) : Prop :=
  v = NONE ∨ ∃ x y : Nat, v = x ∧ (x : Int) - y = d ∧ x ≤ A.length ∧ y ≤ B.length ∧ edp A B x y ≤ e

theorem Cell.up {A B : List Int} {e e' : Nat} {d v : Int} (h : Cell A B e d v) (he : e ≤ e') : Cell A B e' d v := by
  rcases h with h | ⟨x, y, h1, h2, h3, h4, h5⟩
  · exact .inl h
  · exact .inr ⟨x, y, h1, h2, h3, h4, by omega⟩

theorem Cell.sld {A B : List Int} {e : Nat} {d v : Int} (h : Cell A B e d v) (hn : A.length ≤ 1152921504606846976) : Cell A B e d (sldF A B d v) := by
  unfold sldF
  rcases h with h | ⟨x, y, h1, h2, h3, h4, h5⟩
  · rw [if_pos h]; exact .inl rfl
  · subst h1
    rw [if_neg (by unfold NONE; omega), Int.toNat_natCast, show ((x : Int) - d).toNat = y by omega]
    have hl := csl_le A B x y
    exact .inr ⟨x - csl A B x y, y - csl A B x y, by omega, by omega, by omega, by omega, by rw [edp_slide A B h3 h4 _ (Nat.le_refl _)]; exact h5⟩

theorem Cell.min {A B : List Int} {e : Nat} {d u v : Int} (hu : Cell A B e d u) (hv : Cell A B e d v) : Cell A B e d (min u v) := by
  rcases Int.le_total u v with g | g
  · rw [Int.min_eq_left g]; exact hu
  · rw [Int.min_eq_right g]; exact hv

theorem x3F_cell {A B : List Int} {e : Nat} {p q r d : Int} (hn : A.length ≤ 1152921504606846976) (hp : Cell A B e (d + 1) p) (hq : Cell A B e (d - 1) q) (hr : Cell A B (e + 1) d r) : Cell A B (e + 1) d (x3F p q r d) := by
  have c1 : Cell A B (e + 1) d (x1F p) := by
    unfold x1F
    split
    · rename_i h
      rcases hp with hp | ⟨x, y, h1, h2, h3, h4, h5⟩
      · exact absurd hp h.1
      · subst h1
        have hx : 0 < x := by omega
        have := edp_left A B (x := x - 1) (y := y) (by omega)
        rw [show x - 1 + 1 = x by omega] at this
        exact .inr ⟨x - 1, y, by unfold NONE; omega, by omega, by omega, h4, by omega⟩
    · exact .inl rfl
  unfold x3F x2F
  refine Cell.min ?_ hr
  split
  · rename_i h
    refine Cell.min c1 ?_
    rcases hq with hq | ⟨x, y, h1, h2, h3, h4, h5⟩
    · exact absurd hq h.1
    · subst h1
      have := edp_right A B (x := x) (y := y - 1) (by omega)
      rw [show y - 1 + 1 = y by omega] at this
      exact .inr ⟨x, y - 1, rfl, by omega, h3, by omega, by omega⟩
  · exact c1

theorem stpF_cell {A B : List Int} {e : Nat} {p q r d : Int} (hn : A.length ≤ 1152921504606846976) (hp : Cell A B e (d + 1) p) (hq : Cell A B e (d - 1) q) (hr : Cell A B (e + 1) d r) : Cell A B (e + 1) d (stpF p q r d) := by
  unfold stpF
  split
  · exact .inl rfl
  · exact x3F_cell hn hp hq hr

theorem stpF_le {A B : List Int} {e : Nat} {p q r d k : Int} (hn : A.length ≤ 1152921504606846976) (hp : Cell A B e (d + 1) p) (hq : Cell A B e (d - 1) q) (hr : Cell A B (e + 1) d r) (hk : k < NONE) (h : x3F p q r d ≤ k) : stpF p q r d ≤ k := by
  rcases x3F_cell hn hp hq hr with g | ⟨x, y, h1, h2, h3, h4, h5⟩
  · omega
  · unfold stpF
    rw [if_neg (by omega)]
    exact h

theorem x3F_le_p {p q r d : Int} (h1 : p ≠ NONE) (h2 : 0 < p) : x3F p q r d ≤ p - 1 := by
  have e : x1F p = min NONE (p - 1) := if_pos ⟨h1, h2⟩
  unfold x3F x2F
  rw [e]
  split <;> omega

theorem x3F_le_q {p q r d : Int} (h1 : q ≠ NONE) (h2 : d - 1 < q) : x3F p q r d ≤ q := by
  unfold x3F x2F
  rw [if_pos ⟨h1, h2⟩]
  omega

theorem atF_cell {A B : List Int} (hn : A.length ≤ 1152921504606846976) : ∀ (e : Nat) (d : Int), Cell A B e d (atF A B e d)
  | 0, d => by
    unfold atF
    split
    · refine Cell.sld ?_ hn
      split
      · rename_i h
        exact .inr ⟨A.length, B.length, rfl, h.symm, Nat.le_refl _, Nat.le_refl _, by rw [edp_endA A B (Nat.le_refl _)]; omega⟩
      · exact .inl rfl
    · exact .inl rfl
  | 1, d => by
    unfold atF
    split
    · exact Cell.sld (stpF_cell hn (atF_cell hn 0 _) (atF_cell hn 0 _) (.inl rfl)) hn
    · exact .inl rfl
  | e + 2, d => by
    unfold atF
    split
    · exact Cell.sld (stpF_cell hn (atF_cell hn (e + 1) _) (atF_cell hn (e + 1) _) ((atF_cell hn e d).up (by omega))) hn
    · exact .inl rfl

/-- A cell cannot be slid further. -/
theorem sld_stop {A B : List Int} {e : Nat} {d v : Int} (h : Cell A B e d v) (hn : A.length ≤ 1152921504606846976) {x y : Nat} (hxA : x < A.length) (hx : sldF A B d v = (x : Int) + 1) (hd : (x : Int) - y = d) : A.getD x 0 ≠ B.getD y 0 := by
  unfold sldF at hx
  rcases h with h | ⟨x1, y1, h1, h2, h3, h4, h5⟩
  · rw [if_pos h] at hx
    unfold NONE at hx
    omega
  · subst h1
    rw [if_neg (by unfold NONE; omega), Int.toNat_natCast, show ((x1 : Int) - d).toNat = y1 by omega] at hx
    have hl := csl_le A B x1 y1
    have hs := csl_stop A B h3 h4 (by omega) (by omega)
    rwa [show x1 - 1 - csl A B x1 y1 = x by omega, show y1 - 1 - csl A B x1 y1 = y by omega] at hs

theorem sldF_le (A B : List Int) (d v : Int) : sldF A B d v ≤ v := by
  unfold sldF
  split <;> omega

theorem atF_zero (A B : List Int) (d : Int) : atF A B 0 d = if dlow A B 0 ≤ d ∧ d ≤ dhigh A B 0 then sldF A B d (if d = (A.length : Int) - B.length then A.length else NONE) else NONE := by unfold atF; rfl

theorem atF_succ {A B : List Int} (hn : A.length ≤ 1152921504606846976) (k : Nat) (d : Int) (hr : dlow A B (k + 1) ≤ d ∧ d ≤ dhigh A B (k + 1)) :
    ∃ r, Cell A B (k + 1) d r ∧ atF A B (k + 1) d = sldF A B d (stpF (atF A B k (d + 1)) (atF A B k (d - 1)) r d) := by
  cases k with
  | zero => exact ⟨NONE, .inl rfl, by rw [atF.eq_2, if_pos hr]⟩
  | succ k => exact ⟨atF A B k d, (atF_cell hn k d).up (by omega), by rw [atF.eq_3, if_pos hr]⟩

/-- What a cell is before it is slid. -/
theorem atF_form {A B : List Int} (hn : A.length ≤ 1152921504606846976) (e : Nat) (d : Int) : ∃ v, Cell A B e d v ∧ (atF A B e d = sldF A B d v) := by
  have hno : NONE = sldF A B d NONE := by unfold sldF; rw [if_pos rfl]
  cases e with
  | zero =>
    rw [atF_zero]
    split
    · refine ⟨_, ?_, rfl⟩
      split
      · rename_i h
        exact .inr ⟨A.length, B.length, rfl, h.symm, Nat.le_refl _, Nat.le_refl _, by rw [edp_endA A B (Nat.le_refl _)]; omega⟩
      · exact .inl rfl
    · exact ⟨NONE, .inl rfl, hno⟩
  | succ k =>
    by_cases hr : dlow A B (k + 1) ≤ d ∧ d ≤ dhigh A B (k + 1)
    · obtain ⟨r, h1, h2⟩ := atF_succ hn k d hr
      exact ⟨_, stpF_cell hn (atF_cell hn k _) (atF_cell hn k _) h1, h2⟩
    · refine ⟨NONE, .inl rfl, ?_⟩
      rw [← hno]
      cases k with
      | zero => rw [atF.eq_2, if_neg hr]
      | succ k => rw [atF.eq_3, if_neg hr]

theorem OP.range {A B : List Int} {x y e : Nat} (h : OP A B x y) (he : edp A B x y = e) (hG : edp A B 0 0 ≤ 256) : dlow A B e ≤ (x : Int) - y ∧ (x : Int) - y ≤ dhigh A B e := by
  have h1 := h.gap
  have h2 := edp_gap A B h.le.1 h.le.2
  have h3 := h.le
  unfold dlow dhigh
  omega

/-- The rows find every shortest way. -/
theorem atF_le {A B : List Int} (hn : A.length ≤ 1152921504606846976) (hG : edp A B 0 0 ≤ 256) : ∀ (e N x y : Nat), (A.length - x) + (B.length - y) ≤ N → OP A B x y → edp A B x y = e → atF A B e ((x : Int) - y) ≤ x := by
  intro e
  induction e with
  | zero =>
    intro N x y hN hO he
    have hr := hO.range he hG
    have hle := hO.le
    have hg := edp_gap A B hle.1 hle.2
    rw [he] at hg
    rw [atF_zero, if_pos hr, if_pos (by omega)]
    unfold sldF
    rw [if_neg (by unfold NONE; omega), Int.toNat_natCast, show ((A.length : Int) - ((x : Int) - y)).toNat = B.length by omega]
    -- everything behind is equal
    have hall : ∀ j, x + j ≤ A.length → j ≤ csl A B A.length B.length ∨ A.length - x < j + 1 ∨ True := fun _ _ => .inr (.inr trivial)
    have heq : A.drop x = B.drop y := ed_zero _ _ he
    have hs : A.length - x ≤ csl A B A.length B.length := by
      unfold csl
      refine cpl_max _ _ _ (by rw [List.length_reverse, List.length_take]; omega) (by rw [List.length_reverse, List.length_take]; omega) (fun i hi => ?_)
      rw [rev_take_getD A (Nat.le_refl _) (by omega), rev_take_getD B (Nat.le_refl _) (by omega)]
      have h1 : A.getD (A.length - 1 - i) 0 = (A.drop x).getD (A.length - 1 - i - x) 0 := by
        rw [List.getD_eq_getElem?_getD, List.getD_eq_getElem?_getD, List.getElem?_drop, show x + (A.length - 1 - i - x) = A.length - 1 - i by omega]
      have h2 : B.getD (B.length - 1 - i) 0 = (B.drop y).getD (A.length - 1 - i - x) 0 := by
        rw [List.getD_eq_getElem?_getD, List.getD_eq_getElem?_getD, List.getElem?_drop, show y + (A.length - 1 - i - x) = B.length - 1 - i by omega]
      rw [h1, h2, heq]
    omega
  | succ e ihe =>
    intro N
    induction N with
    | zero =>
      intro x y hN hO he
      have hle := hO.le
      rw [edp_endA A B (by omega)] at he
      omega
    | succ N ihN =>
      intro x y hN hO he
      have hr := hO.range he hG
      have hle := hO.le
      have hdel : x < A.length → edp A B (x + 1) y = e → atF A B (e + 1) ((x : Int) - y) ≤ x := by
        intro hx hd
        have hO' := hO.del hx (by omega)
        have hp := ihe _ (x + 1) y (Nat.le_refl _) hO' hd
        obtain ⟨r, h1, h2⟩ := atF_succ hn e ((x : Int) - y) hr
        rw [h2]
        refine Int.le_trans (sldF_le _ _ _ _) ?_
        refine stpF_le hn (atF_cell hn e _) (atF_cell hn e _) h1 (by unfold NONE; omega) ?_
        rw [show ((x + 1 : Nat) : Int) - y = (x : Int) - y + 1 by omega] at hp
        have hne : atF A B e ((x : Int) - y + 1) ≠ NONE := by unfold NONE; omega
        have hpos : 0 < atF A B e ((x : Int) - y + 1) := by
          rcases atF_cell hn e ((x : Int) - y + 1) with g | ⟨x', y', g1, g2, g3, g4, g5⟩
          · exact absurd g hne
          · rcases Nat.eq_zero_or_pos x' with c | c
            · subst c
              obtain ⟨x2, y2, k1, k2, k3, k4⟩ := hO.cross ((x : Int) - y + 1) (.inl ⟨by omega, by omega⟩)
              have := edp_diags A B 0 y' x2 (by omega) (by omega)
              rw [show 0 + x2 = x2 by omega, show y' + x2 = y2 by omega] at this
              omega
            · omega
        have := x3F_le_p (q := atF A B e ((x : Int) - y - 1)) (r := r) (d := (x : Int) - y) hne hpos
        omega
      have hins : y < B.length → edp A B x (y + 1) = e → atF A B (e + 1) ((x : Int) - y) ≤ x := by
        intro hy hd
        have hO' := hO.ins hy (by omega)
        have hp := ihe _ x (y + 1) (Nat.le_refl _) hO' hd
        obtain ⟨r, h1, h2⟩ := atF_succ hn e ((x : Int) - y) hr
        rw [h2]
        refine Int.le_trans (sldF_le _ _ _ _) ?_
        refine stpF_le hn (atF_cell hn e _) (atF_cell hn e _) h1 (by unfold NONE; omega) ?_
        rw [show (x : Int) - (y + 1 : Nat) = (x : Int) - y - 1 by omega] at hp
        have hne : atF A B e ((x : Int) - y - 1) ≠ NONE := by unfold NONE; omega
        have hpos : (x : Int) - y - 1 < atF A B e ((x : Int) - y - 1) := by
          rcases atF_cell hn e ((x : Int) - y - 1) with g | ⟨x', y', g1, g2, g3, g4, g5⟩
          · exact absurd g hne
          · rcases Nat.eq_zero_or_pos y' with c | c
            · subst c
              obtain ⟨x2, y2, k1, k2, k3, k4⟩ := hO.cross ((x : Int) - y - 1) (.inr ⟨by omega, by omega⟩)
              have := edp_diags A B x' 0 y2 (by omega) (by omega)
              rw [show 0 + y2 = y2 by omega, show x' + y2 = x2 by omega] at this
              omega
            · omega
        have := x3F_le_q (p := atF A B e ((x : Int) - y + 1)) (r := r) (d := (x : Int) - y) hne hpos
        omega
      by_cases hx : x < A.length
      · by_cases hy : y < B.length
        · by_cases c : A.getD x 0 = B.getD y 0
          · have hm := edp_match A B hx hy c
            have h1 := ihN (x + 1) (y + 1) (by omega) (hO.keep hx hy c) (by omega)
            rw [show ((x + 1 : Nat) : Int) - (y + 1 : Nat) = (x : Int) - y by omega] at h1
            by_cases g : (x : Int) < atF A B (e + 1) ((x : Int) - y)
            · obtain ⟨v, k1, k2⟩ := atF_form (B := B) hn (e + 1) ((x : Int) - y)
              exact absurd c (sld_stop k1 hn hx (by omega) rfl)
            · omega
          · have hm := edp_diff A B hx hy c
            rcases Nat.le_total (edp A B (x + 1) y) (edp A B x (y + 1)) with g | g
            · rw [Nat.min_eq_left g] at hm
              exact hdel hx (by omega)
            · rw [Nat.min_eq_right g] at hm
              exact hins hy (by omega)
        · have h1 := edp_endB A B (x := x) (y := y) (by omega)
          have h2 := edp_endB A B (x := x + 1) (y := y) (by omega)
          exact hdel hx (by omega)
      · have h1 := edp_endA A B (x := x) (y := y) (by omega)
        have h2 := edp_endA A B (x := x) (y := y + 1) (by omega)
        have hy : y < B.length := by omega
        exact hins hy (by omega)

/-- The rows find the distance, and no less. -/
theorem atF_dist {A B : List Int} (hn : A.length ≤ 1152921504606846976) (e : Nat) (h : atF A B e 0 = 0) : edp A B 0 0 ≤ e := by
  rcases atF_cell (B := B) hn e 0 with g | ⟨x, y, g1, g2, g3, g4, g5⟩
  · rw [g] at h; exact absurd h (by decide)
  · have : x = 0 := by omega
    have : y = 0 := by omega
    subst x y
    exact g5

theorem atF_found {A B : List Int} (hn : A.length ≤ 1152921504606846976) (hG : edp A B 0 0 ≤ 256) : atF A B (edp A B 0 0) 0 = 0 := by
  have h := atF_le hn hG (edp A B 0 0) _ 0 0 (Nat.le_refl _) .zero rfl
  rw [show ((0 : Nat) : Int) - (0 : Nat) = 0 from rfl] at h
  rcases atF_cell (B := B) hn (edp A B 0 0) 0 with g | ⟨x, y, g1, g2, g3, g4, g5⟩
  · rw [g] at h; exact absurd h (by decide)
  · omega

/-- Along a shortest way the rows tell whether a letter can be deleted next. -/
theorem atF_tells {A B : List Int} (hn : A.length ≤ 1152921504606846976) (hG : edp A B 0 0 ≤ 256) {x y e : Nat} (hO : OP A B x y) (he : edp A B x y = e + 1) (hx : x < A.length) :
    atF A B e ((x : Int) + 1 - y) ≤ (x : Int) + 1 ↔ edp A B (x + 1) y = e := by
  have hle := hO.le
  have hl := edp_left A B (y := y) hx
  constructor
  · intro h
    rcases atF_cell (B := B) hn e ((x : Int) + 1 - y) with g | ⟨x', y', g1, g2, g3, g4, g5⟩
    · rw [g] at h; unfold NONE at h; omega
    · have := edp_diags A B x' y' (x + 1 - x') (by omega) (by omega)
      rw [show x' + (x + 1 - x') = x + 1 by omega, show y' + (x + 1 - x') = y by omega] at this
      omega
  · intro h
    have := atF_le hn hG e _ (x + 1) y (Nat.le_refl _) (hO.del hx (by omega)) h
    rwa [show ((x + 1 : Nat) : Int) - y = (x : Int) + 1 - y by omega] at this

end Go.Proofs.YtodmpcnpedpheaaDoor

/- Readers of texts (plain): what is left to read, and that opening a symbol leaves it as it is. -/
set_option linter.unusedSimpArgs false
set_option linter.unusedVariables false
namespace Go.Proofs.YtodmpcnpedpheaaDoor
open Go.RowKit

/-- The letters of an ID as a reader meets them. -/
def txB (L : List Ent) (back : Bool) (id : Int) : List Int := if back then (txt L id).reverse else txt L id

/-- What is left to read: the last group is the next. -/
def restG (L : List Ent) (back : Bool) (td : List (Int × Int)) : List Int := (td.reverse.map fun p => reps (txB L back p.1) p.2.toNat).flatten

/-- A group of a signature symbol. -/
structure GOk (L : List Ent) (p : Int × Int) : Prop where
  kn : isKnown L p.1
  ne : p.1 ≠ 0
  lv : 0 ≤ klev L p.1
  tm : 1 ≤ p.2

/-- What a symbol refers to, the next one last. -/
def opnG (L : List Ent) (back : Bool) (id : Int) : List (Int × Int) :=
  if (entAt L id).rule.kind = 3 then [((entAt L id).rule.left, (entAt L id).rule.times)]
  else if (entAt L id).rule.kind = 2 then (if back then [((entAt L id).rule.left, 1), ((entAt L id).rule.right, 1)] else [((entAt L id).rule.right, 1), ((entAt L id).rule.left, 1)])
  else []

theorem restG_push (L : List Ent) (back : Bool) (td : List (Int × Int)) (p : Int × Int) : restG L back (td ++ [p]) = reps (txB L back p.1) p.2.toNat ++ restG L back td := by
  unfold restG; rw [List.reverse_append]; rfl

theorem restG_nil (L : List Ent) (back : Bool) : restG L back [] = [] := rfl

theorem reps_zero (t : List Int) : reps t 0 = [] := rfl
theorem reps_one (t : List Int) : reps t 1 = t := by rw [reps_succ, reps_zero, List.append_nil]
theorem reps_add (t : List Int) : ∀ a b : Nat, reps t (a + b) = reps t a ++ reps t b
  | 0, b => by rw [Nat.zero_add, reps_zero]; rfl
  | a + 1, b => by rw [show a + 1 + b = (a + b) + 1 by omega, reps_succ, reps_add t a b, reps_succ, List.append_assoc]
theorem reps_reverse (t : List Int) : ∀ k : Nat, (reps t k).reverse = reps t.reverse k
  | 0 => rfl
  | k + 1 => by rw [show k + 1 = k + 1 from rfl, reps_add t k 1, reps_one, List.reverse_append, reps_reverse t k, reps_succ]

/-- The children of a signature symbol. -/
theorem kids_ok {L : List Ent} {back : Bool} (hS : SOk L) (hD : DOk L) {id : Int} (hk : isKnown L id) (h0 : id ≠ 0) (hl : 0 ≤ klev L id) : ∀ p ∈ opnG L back id, GOk L p ∧ p.1 < id := by
  have h1 := hk.1
  have h2 := hk.2
  intro p hp
  unfold opnG at hp
  rcases hD.at id hk h0 with ⟨g1, _⟩ | ⟨g1, g2, _⟩ | ⟨g1, g2, g3⟩
  · rw [if_neg (by rw [g1]; decide), if_neg (by rw [g1]; decide)] at hp; simp at hp
  · have e := (kl_pair hD hk h0 g1).2
    have hc : (entAt L id).rule.left ≠ (entAt L id).rule.right ∧ 0 ≤ klev L (entAt L id).rule.left ∧ 0 ≤ klev L (entAt L id).rule.right := by
      by_cases c : (entAt L id).rule.left ≠ (entAt L id).rule.right ∧ 0 ≤ klev L (entAt L id).rule.left ∧ 0 ≤ klev L (entAt L id).rule.right
      · exact c
      · rw [if_neg c] at e; omega
    rw [if_neg (by rw [g1]; decide), if_pos g1] at hp
    have hh : p = ((entAt L id).rule.left, 1) ∨ p = ((entAt L id).rule.right, 1) := by
      cases back <;> simp at hp <;> rcases hp with h | h <;> simp [h]
    rcases hh with rfl | rfl
    · exact ⟨⟨⟨by show (0 : Int) ≤ (entAt L id).rule.left; omega, by show (entAt L id).rule.left ≤ _; omega⟩, by show (entAt L id).rule.left ≠ 0; omega, hc.2.1, by show (1 : Int) ≤ 1; omega⟩, g2.2.1⟩
    · exact ⟨⟨⟨by show (0 : Int) ≤ (entAt L id).rule.right; omega, by show (entAt L id).rule.right ≤ _; omega⟩, by show (entAt L id).rule.right ≠ 0; omega, hc.2.2, by show (1 : Int) ≤ 1; omega⟩, g2.2.2.2⟩
  · have e := (kl_power hD hk h0 g1).2
    have hc : 0 ≤ klev L (entAt L id).rule.left := by
      by_cases c : 0 ≤ klev L (entAt L id).rule.left ∧ klev L (entAt L id).rule.left % 2 = 0
      · exact c.1
      · rw [if_neg c] at e; omega
    rw [if_pos g1] at hp
    simp only [List.mem_cons, List.not_mem_nil, or_false] at hp
    subst hp
    have ht : 1 ≤ (entAt L id).rule.times := by
      have hw := ((hS.at id hk).2.2.2 h0).1
      rcases Int.lt_or_le 0 (entAt L id).rule.times with c | c
      · exact c
      · exfalso
        have hx := txt_len hD hS _ id (Nat.le_refl _) hk
        rw [txt_pow hD hk h0 g1, show (entAt L id).rule.times.toNat = 0 by omega, reps_zero] at hx
        simp at hx
        omega
    exact ⟨⟨⟨by show (0 : Int) ≤ (entAt L id).rule.left; omega, by show (entAt L id).rule.left ≤ _; omega⟩, by show (entAt L id).rule.left ≠ 0; omega, hc, ht⟩, g2.2⟩

/-- Opening a symbol leaves what is left. -/
theorem restG_open {L : List Ent} (hD : DOk L) {back : Bool} {id : Int} (hk : isKnown L id) (h0 : id ≠ 0) (h1 : (entAt L id).rule.kind ≠ 1) (td : List (Int × Int)) :
    restG L back (td ++ opnG L back id) = txB L back id ++ restG L back td := by
  unfold opnG
  rcases hD.at id hk h0 with ⟨g1, _⟩ | ⟨g1, g2, _⟩ | ⟨g1, g2, g3⟩
  · exact absurd g1 h1
  · rw [if_neg (by rw [g1]; decide), if_pos g1]
    cases back with
    | true =>
      rw [if_pos rfl, show td ++ [((entAt L id).rule.left, (1 : Int)), ((entAt L id).rule.right, 1)] = (td ++ [((entAt L id).rule.left, (1 : Int))]) ++ [((entAt L id).rule.right, 1)] by simp, restG_push, restG_push]
      show reps _ 1 ++ (reps _ 1 ++ _) = _
      rw [reps_one, reps_one]
      unfold txB
      rw [if_pos rfl, if_pos rfl, if_pos rfl, txt_pair hD hk h0 g1, List.reverse_append, List.append_assoc]
    | false =>
      rw [if_neg (by decide), show td ++ [((entAt L id).rule.right, (1 : Int)), ((entAt L id).rule.left, 1)] = (td ++ [((entAt L id).rule.right, (1 : Int))]) ++ [((entAt L id).rule.left, 1)] by simp, restG_push, restG_push]
      show reps _ 1 ++ (reps _ 1 ++ _) = _
      rw [reps_one, reps_one]
      unfold txB
      rw [if_neg (by decide), if_neg (by decide), if_neg (by decide), txt_pair hD hk h0 g1, List.append_assoc]
  · rw [if_pos g1, restG_push]
    dsimp only
    congr 1
    unfold txB
    cases back with
    | true => rw [if_pos rfl, if_pos rfl, txt_pow hD hk h0 g1, reps_reverse]
    | false => rw [if_neg (by decide), if_neg (by decide), txt_pow hD hk h0 g1]

/-- Copies of the next group taken away. -/
def drpG (td : List (Int × Int)) (x k : Int) : List (Int × Int) := if k = 0 then td else td ++ [(x, k)]

theorem restG_drop (L : List Ent) (back : Bool) (td : List (Int × Int)) (x k j : Int) (hj : 0 ≤ j) (hk : j ≤ k) :
    restG L back (td ++ [(x, k)]) = reps (txB L back x) j.toNat ++ restG L back (drpG td x (k - j)) := by
  rw [restG_push]
  unfold drpG
  dsimp only
  rw [show k.toNat = j.toNat + (k - j).toNat by omega, reps_add, List.append_assoc]
  congr 1
  split
  · rename_i h
    rw [h]; rfl
  · rw [restG_push]

theorem txB_len (L : List Ent) (back : Bool) (id : Int) : (txB L back id).length = (txt L id).length := by
  unfold txB; split <;> simp

/-- How much can still be opened. -/
def potG (L : List Ent) : List (Int × Int) → Nat
  | [] => 0
  | p :: r => p.2.toNat * ((txt L p.1).length - 1) + potG L r

theorem potG_append (L : List Ent) : ∀ a b : List (Int × Int), potG L (a ++ b) = potG L a + potG L b
  | [], b => by simp [potG]
  | p :: r, b => by
    show _ + potG L (r ++ b) = _ + potG L r + potG L b
    rw [potG_append L r b]; omega

theorem txt_pos {L : List Ent} (hS : SOk L) (hD : DOk L) {id : Int} (hk : isKnown L id) (h0 : id ≠ 0) : 1 ≤ (txt L id).length := by
  have h := txt_len hD hS _ id (Nat.le_refl _) hk
  have := ((hS.at id hk).2.2.2 h0).1
  omega

/-- Opening brings the end nearer (times: a power has two copies or more). -/
theorem potG_open {L : List Ent} (hS : SOk L) (hD : DOk L) {back : Bool} {id : Int} (hk : isKnown L id) (h0 : id ≠ 0) (h1 : (entAt L id).rule.kind ≠ 1) (ht : (entAt L id).rule.kind = 3 → 2 ≤ (entAt L id).rule.times) :
    potG L (opnG L back id) + 1 ≤ (txt L id).length - 1 := by
  unfold opnG
  rcases hD.at id hk h0 with ⟨g1, _⟩ | ⟨g1, g2, _⟩ | ⟨g1, g2, g3⟩
  · exact absurd g1 h1
  · have hl := txt_pair hD hk h0 g1
    have p1 := txt_pos hS hD (id := (entAt L id).rule.left) ⟨by omega, by have := hk.2; omega⟩ (by omega)
    have p2 := txt_pos hS hD (id := (entAt L id).rule.right) ⟨by omega, by have := hk.2; omega⟩ (by omega)
    have hl' := congrArg List.length hl
    rw [List.length_append] at hl'
    rw [if_neg (by rw [g1]; decide), if_pos g1]
    cases back with
    | true =>
      rw [if_pos rfl]
      simp only [potG, show ((1 : Int)).toNat = 1 by decide, Nat.one_mul]
      omega
    | false =>
      rw [if_neg (by decide)]
      simp only [potG, show ((1 : Int)).toNat = 1 by decide, Nat.one_mul]
      omega
  · have hl := txt_pow hD hk h0 g1
    have p1 := txt_pos hS hD (id := (entAt L id).rule.left) ⟨by omega, by have := hk.2; omega⟩ (by omega)
    have hl' := congrArg List.length hl
    rw [reps_len] at hl'
    have h2 := ht g1
    rw [if_pos g1]
    simp only [potG, Nat.add_zero]
    obtain ⟨m, hm⟩ : ∃ m, (entAt L id).rule.times.toNat = m + 2 := ⟨(entAt L id).rule.times.toNat - 2, by omega⟩
    rw [hm] at hl' ⊢
    obtain ⟨q, hq⟩ : ∃ q, (txt L (entAt L id).rule.left).length = q + 1 := ⟨(txt L (entAt L id).rule.left).length - 1, by omega⟩
    rw [hq] at hl' ⊢
    rw [hl', show q + 1 - 1 = q by omega, Nat.mul_add, Nat.mul_one]
    generalize (m + 2) * q = z
    omega

theorem restG_append (L : List Ent) (back : Bool) (a b : List (Int × Int)) : restG L back (a ++ b) = restG L back b ++ restG L back a := by
  unfold restG; rw [List.reverse_append, List.map_append, List.flatten_append]

theorem potG_le (L : List Ent) (back : Bool) : ∀ td : List (Int × Int), potG L td ≤ (restG L back td).length
  | [] => Nat.le_refl _
  | p :: r => by
    have ih := potG_le L back r
    have e : restG L back (p :: r) = restG L back r ++ restG L back [p] := restG_append L back [p] r
    have e2 : restG L back [p] = reps (txB L back p.1) p.2.toNat := by
      show reps (txB L back p.1) p.2.toNat ++ [] = _
      rw [List.append_nil]
    rw [e, e2, List.length_append, reps_len, txB_len]
    have h : p.2.toNat * ((txt L p.1).length - 1) ≤ p.2.toNat * (txt L p.1).length := Nat.mul_le_mul_left _ (Nat.sub_le _ _)
    show p.2.toNat * ((txt L p.1).length - 1) + potG L r ≤ _
    omega

/-- The end of many copies. -/
theorem drop_reps (t : List Int) {m q n' : Nat} (h : q + 1 ≤ m) (h1 : n' ≤ t.length) : (reps t m).drop (m * t.length - (q * t.length + n')) = t.drop (t.length - n') ++ reps t q := by
  obtain ⟨j, rfl⟩ : ∃ j, m = j + (q + 1) := ⟨m - (q + 1), by omega⟩
  rw [reps_add, reps_succ]
  have e : (j + (q + 1)) * t.length - (q * t.length + n') = (reps t j).length + (t.length - n') := by
    rw [reps_len, Nat.add_mul, Nat.add_mul, Nat.one_mul]
    omega
  rw [e, List.drop_append, List.drop_eq_nil_of_le (by omega), List.nil_append, Nat.add_sub_cancel_left, List.drop_append_of_le_length (by omega)]

/-- The last n letters of a symbol's text, and what lies behind. -/
def tailG (L : List Ent) (back : Bool) (id : Int) (n : Nat) : List Int := (txB L back id).drop ((txB L back id).length - n)

theorem tailG_all (L : List Ent) (back : Bool) (id : Int) : tailG L back id (txt L id).length = txB L back id := by
  unfold tailG; rw [txB_len, Nat.sub_self, List.drop_zero]

theorem tailG_pow {L : List Ent} (hD : DOk L) (back : Bool) {id : Int} (hk : isKnown L id) (h0 : id ≠ 0) (h3 : (entAt L id).rule.kind = 3) {q n' : Nat} (hn' : n' ≤ (txt L (entAt L id).rule.left).length) (hq : q + 1 ≤ (entAt L id).rule.times.toNat) :
    tailG L back id (q * (txt L (entAt L id).rule.left).length + n') = tailG L back (entAt L id).rule.left n' ++ reps (txB L back (entAt L id).rule.left) q := by
  have e : txB L back id = reps (txB L back (entAt L id).rule.left) (entAt L id).rule.times.toNat := by
    unfold txB
    cases back with
    | true => rw [if_pos rfl, if_pos rfl, txt_pow hD hk h0 h3, reps_reverse]
    | false => rw [if_neg (by decide), if_neg (by decide), txt_pow hD hk h0 h3]
  unfold tailG
  rw [e, reps_len, ← txB_len L back (entAt L id).rule.left]
  exact drop_reps _ hq (by rw [txB_len]; exact hn')

theorem txB_pair {L : List Ent} (hD : DOk L) (back : Bool) {id : Int} (hk : isKnown L id) (h0 : id ≠ 0) (h2 : (entAt L id).rule.kind = 2) :
    txB L back id = txB L back (if back then (entAt L id).rule.right else (entAt L id).rule.left) ++ txB L back (if back then (entAt L id).rule.left else (entAt L id).rule.right) := by
  unfold txB
  cases back with
  | true => rw [if_pos rfl, if_pos rfl, if_pos rfl, if_pos rfl, if_pos rfl, txt_pair hD hk h0 h2, List.reverse_append]
  | false => rw [if_neg (by decide), if_neg (by decide), if_neg (by decide), if_neg (by decide), if_neg (by decide), txt_pair hD hk h0 h2]

theorem tailG_far {L : List Ent} (hD : DOk L) (back : Bool) {id : Int} (hk : isKnown L id) (h0 : id ≠ 0) (h2 : (entAt L id).rule.kind = 2) {n : Nat} (hn : n ≤ (txt L (if back then (entAt L id).rule.left else (entAt L id).rule.right)).length) :
    tailG L back id n = tailG L back (if back then (entAt L id).rule.left else (entAt L id).rule.right) n := by
  unfold tailG
  rw [txB_pair hD back hk h0 h2, List.length_append]
  rw [← txB_len L back] at hn
  rw [show (txB L back (if back then (entAt L id).rule.right else (entAt L id).rule.left)).length + (txB L back (if back then (entAt L id).rule.left else (entAt L id).rule.right)).length - n = (txB L back (if back then (entAt L id).rule.right else (entAt L id).rule.left)).length + ((txB L back (if back then (entAt L id).rule.left else (entAt L id).rule.right)).length - n) by omega, List.drop_append, List.drop_eq_nil_of_le (by omega), List.nil_append, Nat.add_sub_cancel_left]

theorem tailG_near {L : List Ent} (hD : DOk L) (back : Bool) {id : Int} (hk : isKnown L id) (h0 : id ≠ 0) (h2 : (entAt L id).rule.kind = 2) {n : Nat}
    (hn : n ≤ (txt L (if back then (entAt L id).rule.right else (entAt L id).rule.left)).length) :
    tailG L back id (n + (txt L (if back then (entAt L id).rule.left else (entAt L id).rule.right)).length) = tailG L back (if back then (entAt L id).rule.right else (entAt L id).rule.left) n ++ txB L back (if back then (entAt L id).rule.left else (entAt L id).rule.right) := by
  unfold tailG
  rw [txB_pair hD back hk h0 h2, List.length_append]
  rw [← txB_len L back] at hn ⊢
  rw [show (txB L back (if back then (entAt L id).rule.right else (entAt L id).rule.left)).length + (txB L back (if back then (entAt L id).rule.left else (entAt L id).rule.right)).length - (n + (txB L back (if back then (entAt L id).rule.left else (entAt L id).rule.right)).length) = (txB L back (if back then (entAt L id).rule.right else (entAt L id).rule.left)).length - n by omega, List.drop_append_of_le_length (by omega)]

/-- The common prefix behind equal letters. -/
theorem cpl_append (u : List Int) : ∀ a b : List Int, cpl (u ++ a) (u ++ b) = u.length + cpl a b := by
  induction u with
  | nil => intro a b; simp
  | cons x u ih =>
    intro a b
    show (if x = x then cpl (u ++ a) (u ++ b) + 1 else 0) = _
    rw [if_pos rfl, ih, List.length_cons]; omega

theorem cpl_ne {x y : Int} (h : x ≠ y) (a b : List Int) : cpl (x :: a) (y :: b) = 0 := by
  show (if x = y then cpl a b + 1 else 0) = 0
  rw [if_neg h]

end Go.Proofs.YtodmpcnpedpheaaDoor

/- Readers (plain): what newReader leaves, and what each step of common does. -/
set_option linter.unusedSimpArgs false
set_option linter.unusedVariables false
namespace Go.Proofs.YtodmpcnpedpheaaDoor
open Go.RowKit

def GAll (L : List Ent) (td : List (Int × Int)) : Prop := ∀ p ∈ td, GOk L p

theorem GAll.nil (L : List Ent) : GAll L [] := fun p hp => by simp at hp
theorem GAll.app {L : List Ent} {a b : List (Int × Int)} (ha : GAll L a) (hb : GAll L b) : GAll L (a ++ b) := fun p hp => by
  rcases List.mem_append.1 hp with h | h
  · exact ha p h
  · exact hb p h
theorem GAll.left {L : List Ent} {a b : List (Int × Int)} (h : GAll L (a ++ b)) : GAll L a := fun p hp => h p (List.mem_append_left _ hp)
theorem GAll.right {L : List Ent} {a b : List (Int × Int)} (h : GAll L (a ++ b)) : GAll L b := fun p hp => h p (List.mem_append_right _ hp)
theorem GAll.one {L : List Ent} {p : Int × Int} (h : GOk L p) : GAll L [p] := fun q hq => by
  rw [List.mem_singleton] at hq; rw [hq]; exact h
theorem GAll.last {L : List Ent} {a : List (Int × Int)} {p : Int × Int} (h : GAll L (a ++ [p])) : GOk L p := h p (List.mem_append_right _ (List.mem_singleton.2 rfl))
theorem GOk.times {L : List Ent} {x k k' : Int} (h : GOk L (x, k)) (hk : 1 ≤ k') : GOk L (x, k') := ⟨h.kn, h.ne, h.lv, hk⟩
theorem GAll.drp {L : List Ent} {td : List (Int × Int)} {x k k' : Int} (h : GAll L (td ++ [(x, k)])) (hk : 0 ≤ k') : GAll L (drpG td x k') := by
  unfold drpG
  split
  · exact h.left
  · exact h.left.app (GAll.one (h.last.times (by omega)))

theorem GAll.len {L : List Ent} (hS : SOk L) (hD : DOk L) (back : Bool) : ∀ {td : List (Int × Int)}, GAll L td → td.length ≤ (restG L back td).length
  | [], _ => Nat.zero_le _
  | p :: r, h => by
    have ih := GAll.len hS hD back (td := r) (fun q hq => h q (List.mem_cons_of_mem _ hq))
    have hp := h p List.mem_cons_self
    have e : restG L back (p :: r) = restG L back r ++ restG L back [p] := restG_append L back [p] r
    have e2 : restG L back [p] = reps (txB L back p.1) p.2.toNat := by
      show reps (txB L back p.1) p.2.toNat ++ [] = _
      rw [List.append_nil]
    have hl := txt_pos hS hD hp.kn hp.ne
    have ht := hp.tm
    rw [e, e2, List.length_append, reps_len, txB_len, List.length_cons]
    have h1 : 1 * 1 ≤ p.2.toNat * (txt L p.1).length := Nat.mul_le_mul (by omega) hl
    omega

/-- Copies of the last group: all of them, and what they say of the rest. -/
theorem rest_last {L : List Ent} (hS : SOk L) (hD : DOk L) (back : Bool) {td : List (Int × Int)} {x k : Int} (h : GAll L (td ++ [(x, k)])) : (restG L back (td ++ [(x, k)])).length = k.toNat * (txt L x).length + (restG L back td).length ∧ 1 ≤ (txt L x).length ∧ k ≤ (restG L back (td ++ [(x, k)])).length := by
  have hl := txt_pos hS hD h.last.kn h.last.ne
  have ht := h.last.tm
  have e : (restG L back (td ++ [(x, k)])).length = k.toNat * (txt L x).length + (restG L back td).length := by
    rw [restG_push, List.length_append, reps_len, txB_len]
  have h1 : k.toNat * 1 ≤ k.toNat * (txt L x).length := Nat.mul_le_mul_left _ hl
  dsimp only at ht
  exact ⟨e, hl, by omega⟩

theorem klev_pos {L : List Ent} (hD : DOk L) {id : Int} (hk : isKnown L id) (h0 : id ≠ 0) (hl : 0 ≤ klev L id) (h : (entAt L id).rule.kind ≠ 1) : 1 ≤ klev L id := by
  have h1 := hk.1
  rcases hD.at id hk h0 with ⟨g1, _⟩ | ⟨g1, g2, _⟩ | ⟨g1, g2, _⟩
  · exact absurd g1 h
  · have e := (kl_pair hD hk h0 g1).2
    rw [e] at hl ⊢
    by_cases c : (entAt L id).rule.left ≠ (entAt L id).rule.right ∧ 0 ≤ klev L (entAt L id).rule.left ∧ 0 ≤ klev L (entAt L id).rule.right
    · rw [if_pos c]
      have k1 := kkey_rng hD (id := (entAt L id).rule.left) ⟨by omega, by have := hk.2; omega⟩ (by omega)
      have k2 := kkey_rng hD (id := (entAt L id).rule.right) ⟨by omega, by have := hk.2; omega⟩ (by omega)
      have := (aftI_spec (low := max (klev L (entAt L id).rule.left) (klev L (entAt L id).rule.right)) (by omega) k1.1 k1.2 k2.1 k2.2).1
      omega
    · rw [if_neg c] at hl; omega
  · have e := (kl_power hD hk h0 g1).2
    rw [e] at hl ⊢
    by_cases c : 0 ≤ klev L (entAt L id).rule.left ∧ klev L (entAt L id).rule.left % 2 = 0
    · rw [if_pos c]; omega
    · rw [if_neg c] at hl; omega

theorem klev_kind {L : List Ent} (hD : DOk L) {id : Int} (hk : isKnown L id) (h0 : id ≠ 0) (hl : 1 ≤ klev L id) : (entAt L id).rule.kind ≠ 1 := fun h => by
  have h1 := hk.1
  have := (kl_letter (L := L) (id := id) (by omega) h).2
  omega

/-- Different letters. -/
theorem cpl_letters {L : List Ent} (hD : DOk L) (hU : Uq L) (back : Bool) {tx ty : List (Int × Int)} {a b k m : Int} (ha : GOk L (a, k)) (hb : GOk L (b, m)) (hne : a ≠ b) (h1 : klev L a = 0) (h2 : klev L b = 0) :
    cpl (restG L back (tx ++ [(a, k)])) (restG L back (ty ++ [(b, m)])) = 0 := by
  have k1 : (entAt L a).rule.kind = 1 := by
    by_cases c : (entAt L a).rule.kind = 1
    · exact c
    · have := klev_pos hD ha.kn ha.ne (by show 0 ≤ klev L a; omega) c; dsimp only at this; omega
  have k2 : (entAt L b).rule.kind = 1 := by
    by_cases c : (entAt L b).rule.kind = 1
    · exact c
    · have := klev_pos hD hb.kn hb.ne (by show 0 ≤ klev L b; omega) c; dsimp only at this; omega
  have hl : (entAt L a).rule.letter ≠ (entAt L b).rule.letter := by
    intro e
    apply hne
    refine hU.one a b ha.kn hb.kn ha.ne hb.ne ?_
    have e1 : entAt L a = letterEnt (entAt L a).rule.letter := by
      rcases hD.at a ha.kn ha.ne with ⟨_, g⟩ | ⟨g, _⟩ | ⟨g, _⟩
      · exact g
      · omega
      · omega
    have e2 : entAt L b = letterEnt (entAt L b).rule.letter := by
      rcases hD.at b hb.kn hb.ne with ⟨_, g⟩ | ⟨g, _⟩ | ⟨g, _⟩
      · exact g
      · omega
      · omega
    rw [e1, e2, e]
  have one : ∀ (x : Int) (t : List Int), txt L x = [t.headD 0] → txB L back x = [t.headD 0] := by
    intro x t h; unfold txB; rw [h]; cases back <;> rfl
  have t1 : txB L back a = [(entAt L a).rule.letter] := one a [_] (txt_letter ha.kn ha.ne k1)
  have t2 : txB L back b = [(entAt L b).rule.letter] := one b [_] (txt_letter hb.kn hb.ne k2)
  obtain ⟨k', hk'⟩ : ∃ j, k.toNat = j + 1 := ⟨k.toNat - 1, by have := ha.tm; dsimp only at this; omega⟩
  obtain ⟨m', hm'⟩ : ∃ j, m.toNat = j + 1 := ⟨m.toNat - 1, by have := hb.tm; dsimp only at this; omega⟩
  rw [restG_push, restG_push]
  dsimp only
  rw [hk', hm', reps_succ, reps_succ, t1, t2]
  exact cpl_ne hl _ _

/-- What common keeps. -/
structure CmI (L : List Ent) (back : Bool) (C : Nat) (tx ty : List (Int × Int)) (sum : Nat) : Prop where
  gx : GAll L tx
  gy : GAll L ty
  sum : sum + cpl (restG L back tx) (restG L back ty) = C

def mesG (L : List Ent) (back : Bool) (tx ty : List (Int × Int)) : Nat := potG L tx + potG L ty + (restG L back tx).length

theorem potG_drp (L : List Ent) (td : List (Int × Int)) (x k j : Int) (hj : 0 ≤ j) (hk : j ≤ k) : potG L (drpG td x (k - j)) + j.toNat * ((txt L x).length - 1) = potG L (td ++ [(x, k)]) := by
  have e : ∀ m : Int, potG L (td ++ [(x, m)]) = potG L td + m.toNat * ((txt L x).length - 1) := fun m => by rw [potG_append]; rfl
  have e2 : potG L (drpG td x (k - j)) = potG L td + (k - j).toNat * ((txt L x).length - 1) := by
    unfold drpG
    split
    · rename_i h; rw [h]; simp
    · exact e _
  rw [e2, e, Nat.add_assoc, ← Nat.add_mul]
  congr 2
  omega

theorem CmI.same {L : List Ent} {back : Bool} {C : Nat} {tx ty : List (Int × Int)} {a k m t : Int} {sum : Nat} (hS : SOk L) (hD : DOk L) (h : CmI L back C (tx ++ [(a, k)]) (ty ++ [(a, m)]) sum) (ht1 : 1 ≤ t) (hk : t ≤ k) (hm : t ≤ m) :
    CmI L back C (drpG tx a (k - t)) (drpG ty a (m - t)) (sum + t.toNat * (txt L a).length) ∧ mesG L back (drpG tx a (k - t)) (drpG ty a (m - t)) < mesG L back (tx ++ [(a, k)]) (ty ++ [(a, m)]) := by
  have hs := h.sum
  have hl := txt_pos hS hD h.gx.last.kn h.gx.last.ne
  rw [restG_drop L back tx a k t (by omega) hk, restG_drop L back ty a m t (by omega) hm, cpl_append, reps_len, txB_len] at hs
  refine ⟨⟨h.gx.drp (by omega), h.gy.drp (by omega), by omega⟩, ?_⟩
  have p1 := potG_drp L tx a k t (by omega) hk
  have p2 := potG_drp L ty a m t (by omega) hm
  have e := congrArg List.length (restG_drop L back tx a k t (by omega) hk)
  rw [List.length_append, reps_len, txB_len] at e
  have h1 : 1 * 1 ≤ t.toNat * (txt L a).length := Nat.mul_le_mul (by omega) hl
  unfold mesG
  rw [e]
  omega

theorem open_ok {L : List Ent} {back : Bool} (hS : SOk L) (hD : DOk L) (hU : Uq L) {td : List (Int × Int)} {a k : Int} (h : GAll L (td ++ [(a, k)])) (h1 : (entAt L a).rule.kind ≠ 1) :
    GAll L (drpG td a (k - 1) ++ opnG L back a) ∧ restG L back (drpG td a (k - 1) ++ opnG L back a) = restG L back (td ++ [(a, k)]) ∧ potG L (drpG td a (k - 1) ++ opnG L back a) < potG L (td ++ [(a, k)]) := by
  have hg := h.last
  have ht := hg.tm
  dsimp only at ht
  refine ⟨(h.drp (by omega)).app (fun p hp => (kids_ok hS hD hg.kn hg.ne hg.lv p hp).1), ?_, ?_⟩
  · rw [restG_open hD hg.kn hg.ne h1, restG_drop L back td a k 1 (by omega) ht]
    rw [show ((1 : Int)).toNat = 1 by decide, reps_one]
  · have p1 := potG_drp L td a k 1 (by omega) ht
    have p2 := potG_open (back := back) hS hD hg.kn hg.ne h1 (fun h3 => hU.pow a hg.kn hg.ne h3)
    rw [potG_append]
    rw [show ((1 : Int)).toNat = 1 by decide, Nat.one_mul] at p1
    dsimp only at p2
    omega

theorem CmI.openX {L : List Ent} {back : Bool} {C : Nat} {tx ty : List (Int × Int)} {a k : Int} {sum : Nat} (hS : SOk L) (hD : DOk L) (hU : Uq L) (h : CmI L back C (tx ++ [(a, k)]) ty sum) (h1 : (entAt L a).rule.kind ≠ 1) :
    CmI L back C (drpG tx a (k - 1) ++ opnG L back a) ty sum ∧ mesG L back (drpG tx a (k - 1) ++ opnG L back a) ty < mesG L back (tx ++ [(a, k)]) ty := by
  obtain ⟨g1, g2, g3⟩ := open_ok (back := back) hS hD hU h.gx h1
  exact ⟨⟨g1, h.gy, by rw [g2]; exact h.sum⟩, by unfold mesG; rw [g2]; omega⟩

theorem CmI.openY {L : List Ent} {back : Bool} {C : Nat} {tx ty : List (Int × Int)} {a k : Int} {sum : Nat} (hS : SOk L) (hD : DOk L) (hU : Uq L) (h : CmI L back C tx (ty ++ [(a, k)]) sum) (h1 : (entAt L a).rule.kind ≠ 1) :
    CmI L back C tx (drpG ty a (k - 1) ++ opnG L back a) sum ∧ mesG L back tx (drpG ty a (k - 1) ++ opnG L back a) < mesG L back tx (ty ++ [(a, k)]) := by
  obtain ⟨g1, g2, g3⟩ := open_ok (back := back) hS hD hU h.gy h1
  exact ⟨⟨h.gx, g1, by rw [g2]; exact h.sum⟩, by unfold mesG; omega⟩

theorem CmI.end_ {L : List Ent} {back : Bool} {C : Nat} {tx ty : List (Int × Int)} {sum : Nat} (h : CmI L back C tx ty sum) (he : tx = [] ∨ ty = []) : sum = C := by
  have hs := h.sum
  have : cpl (restG L back tx) (restG L back ty) = 0 := by
    have hl := cpl_le (restG L back tx) (restG L back ty)
    rcases he with e | e
    · rw [e, restG_nil] at hl ⊢; have := hl.1; simp at this; exact this
    · rw [e, restG_nil] at hl ⊢; have := hl.2; simp at this; exact this
  omega

/-- What newReader keeps. -/
structure NrI (L : List Ent) (back : Bool) (R : List Int) (id : Int) (n : Nat) (td : List (Int × Int)) (q : Int) : Prop where
  g : GAll L (td ++ [(id, q + 1)])
  q0 : 0 ≤ q
  n1 : 1 ≤ n
  n2 : n ≤ (txt L id).length
  rest : tailG L back id n ++ (reps (txB L back id) q.toNat ++ restG L back td) = R

theorem restG_drp (L : List Ent) (back : Bool) (td : List (Int × Int)) (x k : Int) : restG L back (drpG td x k) = reps (txB L back x) k.toNat ++ restG L back td := by
  unfold drpG
  split
  · rename_i h; rw [h]; rfl
  · rw [restG_push]

theorem NrI.start {L : List Ent} {back : Bool} {id : Int} {n : Nat} (hg : GOk L (id, 1)) (h1 : 1 ≤ n) (h2 : n ≤ (txt L id).length) : NrI L back (tailG L back id n) id n [] 0 :=
  ⟨by exact GAll.one hg, by omega, h1, h2, by rw [restG_nil]; simp [reps]⟩

theorem NrI.done {L : List Ent} {back : Bool} {R : List Int} {id : Int} {n : Nat} {td : List (Int × Int)} {q : Int} (h : NrI L back R id n td q) (hn : (txt L id).length ≤ n) : restG L back (td ++ [(id, q + 1)]) = R := by
  have hr := h.rest
  have h2 := h.n2
  have hq := h.q0
  rw [show n = (txt L id).length by omega, tailG_all] at hr
  rw [restG_push]
  dsimp only
  rw [show (q + 1).toNat = q.toNat + 1 by omega, reps_succ, List.append_assoc]
  exact hr

theorem NrI.pow {L : List Ent} {back : Bool} {R : List Int} {id : Int} {n : Nat} {td : List (Int × Int)} {q : Int} (hS : SOk L) (hD : DOk L) (h : NrI L back R id n td q) (h3 : (entAt L id).rule.kind = 3) (q' n' once : Nat) (ho : once = (txt L (entAt L id).rule.left).length) (hq' : q' = (n - 1) / once) (hn' : n' = (n - 1) % once + 1) :
    NrI L back R (entAt L id).rule.left n' (drpG td id q) q' ∧ (q' : Int) + 1 ≤ (entAt L id).rule.times ∧ (entAt L id).rule.left < id ∧ 1 ≤ once := by
  have hg := h.g.last
  have h1 := h.n1
  have h2 := h.n2
  have hk := (kids_ok (back := back) hS hD hg.kn hg.ne hg.lv ((entAt L id).rule.left, (entAt L id).rule.times) (by unfold opnG; rw [if_pos h3]; exact List.mem_singleton.2 rfl))
  have hp := txt_pos hS hD hk.1.kn hk.1.ne
  dsimp only at hp
  have hl : (txt L id).length = (entAt L id).rule.times.toNat * once := by
    have := congrArg List.length (txt_pow hD hg.kn hg.ne h3)
    rw [reps_len] at this
    rw [ho]; exact this
  have ht := hk.1.tm
  dsimp only at ht
  have hm := Nat.div_add_mod (n - 1) once
  have hlt := Nat.mod_lt (n - 1) (show 0 < once by omega)
  have hql : q' + 1 ≤ (entAt L id).rule.times.toNat := by
    rw [hq']
    refine Nat.lt_of_mul_lt_mul_right (a := once) ?_
    rw [Nat.mul_comm]
    omega
  have hn : n = q' * once + n' := by
    rw [hq', hn', Nat.mul_comm]; omega
  refine ⟨⟨(h.g.drp (k' := q) h.q0).app (GAll.one ⟨hk.1.kn, hk.1.ne, hk.1.lv, by show 1 ≤ (q' : Int) + 1; omega⟩), by omega, by omega, by omega, ?_⟩, by omega, hk.2, by omega⟩
  have hr := h.rest
  have hle : n' ≤ (txt L (entAt L id).rule.left).length := by omega
  rw [hn, ho, tailG_pow (n' := n') (q := q') hD back hg.kn hg.ne h3 hle hql] at hr
  rw [restG_drp, Int.toNat_natCast, ← hr, List.append_assoc]

theorem NrI.far {L : List Ent} {back : Bool} {R : List Int} {id : Int} {n : Nat} {td : List (Int × Int)} {q : Int} (hS : SOk L) (hD : DOk L) (h : NrI L back R id n td q) (h2 : (entAt L id).rule.kind = 2) {far : Int} (hf : far = (if back then (entAt L id).rule.left else (entAt L id).rule.right)) (hn : n ≤ (txt L far).length) :
    NrI L back R far n (drpG td id q) 0 ∧ far < id := by
  have hg := h.g.last
  have hk := (kids_ok (back := back) hS hD hg.kn hg.ne hg.lv (far, 1) (by unfold opnG; rw [if_neg (by rw [h2]; decide), if_pos h2, hf]; cases back <;> simp))
  refine ⟨⟨(h.g.drp (k' := q) h.q0).app (GAll.one hk.1), by omega, h.n1, hn, ?_⟩, hk.2⟩
  have hr := h.rest
  rw [tailG_far hD back hg.kn hg.ne h2 (by rw [← hf]; exact hn), ← hf] at hr
  rw [restG_drp, ← hr]
  rfl

theorem NrI.near {L : List Ent} {back : Bool} {R : List Int} {id : Int} {n : Nat} {td : List (Int × Int)} {q : Int} (hS : SOk L) (hD : DOk L) (h : NrI L back R id n td q) (h2 : (entAt L id).rule.kind = 2) {far near : Int} (hf : far = (if back then (entAt L id).rule.left else (entAt L id).rule.right)) (hf2 : near = (if back then (entAt L id).rule.right else (entAt L id).rule.left)) (hn : (txt L far).length < n) :
    NrI L back R near (n - (txt L far).length) (drpG td id q ++ [(far, 1)]) 0 ∧ near < id := by
  have hg := h.g.last
  have hk := (kids_ok (back := back) hS hD hg.kn hg.ne hg.lv (far, 1) (by unfold opnG; rw [if_neg (by rw [h2]; decide), if_pos h2, hf]; cases back <;> simp))
  have hk2 := (kids_ok (back := back) hS hD hg.kn hg.ne hg.lv (near, 1) (by unfold opnG; rw [if_neg (by rw [h2]; decide), if_pos h2, hf2]; cases back <;> simp))
  have hl : (txt L id).length = (txt L near).length + (txt L far).length := by
    have := congrArg List.length (txB_pair hD back hg.kn hg.ne h2)
    rw [List.length_append, txB_len, txB_len, txB_len, ← hf, ← hf2] at this
    exact this
  have hn2 := h.n2
  have hle : n - (txt L far).length ≤ (txt L near).length := by omega
  refine ⟨⟨((h.g.drp (k' := q) h.q0).app (GAll.one hk.1)).app (GAll.one hk2.1), by omega, by omega, hle, ?_⟩, hk2.2⟩
  have hr := h.rest
  have hx := tailG_near hD back hg.kn hg.ne h2 (n := n - (txt L far).length) (by rw [← hf2]; exact hle)
  rw [← hf, ← hf2, show n - (txt L far).length + (txt L far).length = n by omega] at hx
  rw [hx, List.append_assoc] at hr
  rw [restG_push, restG_drp, ← hr]
  dsimp only
  rw [show ((1 : Int)).toNat = 1 by decide, reps_one]
  rfl

theorem tailG_len (L : List Ent) (back : Bool) (id : Int) {n : Nat} (h : n ≤ (txt L id).length) : (tailG L back id n).length = n := by
  unfold tailG; rw [List.length_drop, txB_len]; omega

theorem NrI.bnd {L : List Ent} {back : Bool} {R : List Int} {id : Int} {n : Nat} {td : List (Int × Int)} {q : Int} (hS : SOk L) (hD : DOk L) (h : NrI L back R id n td q) : td.length ≤ R.length ∧ q ≤ R.length := by
  have e := congrArg List.length h.rest
  rw [List.length_append, List.length_append, tailG_len _ _ _ h.n2, reps_len, txB_len] at e
  have h1 := GAll.len hS hD back h.g.left
  have hl := txt_pos hS hD h.g.last.kn h.g.last.ne
  have h2 : q.toNat * 1 ≤ q.toNat * (txt L id).length := Nat.mul_le_mul_left _ hl
  have h3 := h.q0
  omega

theorem NrI.opn2 {L : List Ent} {back : Bool} {id : Int} (h2 : (entAt L id).rule.kind = 2) {far near : Int} (hf : far = (if back then (entAt L id).rule.left else (entAt L id).rule.right)) (hf2 : near = (if back then (entAt L id).rule.right else (entAt L id).rule.left)) : opnG L back id = [(far, 1), (near, 1)] := by
  unfold opnG; rw [if_neg (by rw [h2]; decide), if_pos h2, hf, hf2]; cases back <;> rfl

theorem NrI.opn3 {L : List Ent} {back : Bool} {id : Int} (h3 : (entAt L id).rule.kind = 3) : opnG L back id = [((entAt L id).rule.left, (entAt L id).rule.times)] := by
  unfold opnG; rw [if_pos h3]

end Go.Proofs.YtodmpcnpedpheaaDoor

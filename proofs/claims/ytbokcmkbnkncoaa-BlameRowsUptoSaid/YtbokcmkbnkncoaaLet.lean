/- Letters of a blame, and the rows that they make. Plain. -/
import Derived.Test.YtbokcmkbnkncoaaFin1
import Derived.Test.YtbokcmkbnkncoaaPat2
set_option linter.unusedSimpArgs false
set_option linter.unusedVariables false
namespace Go.Proofs.Ytbokcmkbnkncoaa
open Go.RowKit

/-- A letter: its version and its offset there. -/
structure Lt where
  ver : Int
  org : Int
deriving DecidableEq, Inhabited

/-- n letters of a version, from an offset on. -/
def run (n : Nat) (ver org : Int) : List Lt := (List.range n).map fun (i : Nat) => (⟨ver, org + (i : Int)⟩ : Lt)

theorem run_len (n : Nat) (ver org : Int) : (run n ver org).length = n := by simp [run]
theorem run_zero (ver org : Int) : run 0 ver org = [] := rfl
theorem run_succ (n : Nat) (ver org : Int) : run (n + 1) ver org = run n ver org ++ [⟨ver, org + (n : Int)⟩] := by
  simp [run, List.range_succ]
theorem run_add (m n : Nat) (ver org : Int) : run (m + n) ver org = run m ver org ++ run n ver (org + (m : Int)) := by
  induction n with
  | zero => simp [run_zero]
  | succ n ih => rw [← Nat.add_assoc, run_succ, ih, run_succ, List.append_assoc]; congr 3; simp; omega

def rowsS (T : List Lt) : List Rw × Int := T.foldl (fun s l => (addRow s.1 s.2 1 l.ver l.org, s.2 + 1)) ([], 0)
/-- The rows of letters. -/
def rowsOf (T : List Lt) : List Rw := (rowsS T).1

theorem rowsS_snoc (T : List Lt) (l : Lt) : rowsS (T ++ [l]) = (addRow (rowsS T).1 (rowsS T).2 1 l.ver l.org, (rowsS T).2 + 1) := by
  unfold rowsS; rw [List.foldl_append]; rfl

theorem snoc_ind {α : Type} {P : List α → Prop} (h0 : P []) (h1 : ∀ T l, P T → P (T ++ [l])) (T : List α) : P T := by
  have : ∀ n (T : List α), T.length = n → P T := by
    intro n
    induction n with
    | zero => intro T hT; rw [List.eq_nil_of_length_eq_zero hT]; exact h0
    | succ n ih =>
      intro T hT
      have hne : T ≠ [] := by rintro rfl; simp at hT
      rw [← List.dropLast_concat_getLast hne]
      exact h1 _ _ (ih _ (by simp [hT]))
  exact this _ T rfl

theorem rowsS_len (T : List Lt) : (rowsS T).2 = T.length := by
  induction T using snoc_ind with
  | h0 => rfl
  | h1 T l ih => rw [rowsS_snoc, ih]; simp

theorem rowsOf_nil : rowsOf [] = [] := rfl
theorem rowsOf_snoc (T : List Lt) (l : Lt) : rowsOf (T ++ [l]) = addRow (rowsOf T) T.length 1 l.ver l.org := by
  show (rowsS (T ++ [l])).1 = _
  rw [rowsS_snoc, rowsS_len]; rfl

theorem addRow_zero (rs : List Rw) (len ver org : Int) : addRow rs len 0 ver org = rs := by simp [addRow]

theorem addRow_one {rs : List Rw} {len n ver org : Int} (hn : n ≠ 0) : addRow rs len n ver org = rs ++ [⟨len, n, ver, org⟩] ∨ ∃ init r, rs = init ++ [r] ∧ (r.ver = ver ∧ r.org + r.n = org) ∧ addRow rs len n ver org = init ++ [⟨r.fr, r.n + n, r.ver, r.org⟩] := by
  unfold addRow
  rw [if_neg hn]
  cases hg : rs.getLast? with
  | none => rw [List.getLast?_eq_none_iff.1 hg]; exact .inl rfl
  | some r =>
    by_cases h : r.ver = ver ∧ r.org + r.n = org
    · refine .inr ⟨rs.dropLast, r, ?_, h, if_pos h⟩
      have hne : rs ≠ [] := by rintro rfl; cases hg
      have h1 := List.dropLast_concat_getLast hne
      rw [List.getLast?_eq_some_getLast hne] at hg
      rw [Option.some.inj hg] at h1
      exact h1.symm
    · exact .inl (if_neg h)

theorem addRow_append (init : List Rw) (r : Rw) (len n ver org : Int) (hn : n ≠ 0) : addRow (init ++ [r]) len n ver org = if r.ver = ver ∧ r.org + r.n = org then init ++ [⟨r.fr, r.n + n, r.ver, r.org⟩] else init ++ [r] ++ [⟨len, n, ver, org⟩] := by
  unfold addRow
  rw [if_neg hn]
  simp

theorem addRow_again (rs : List Rw) (len n ver org : Int) (hn : 0 ≤ n) : addRow (addRow rs len n ver org) (len + n) 1 ver (org + n) = addRow rs len (n + 1) ver org := by
  by_cases h0 : n = 0
  · subst h0; rw [addRow_zero, Int.add_zero, Int.add_zero, Int.zero_add]
  · cases hg : rs.getLast? with
    | none =>
      rw [List.getLast?_eq_none_iff.1 hg]
      have e : ∀ m : Int, m ≠ 0 → addRow [] len m ver org = [⟨len, m, ver, org⟩] := fun m hm => by unfold addRow; rw [if_neg hm]; rfl
      rw [e n h0, e (n + 1) (by omega), show [(⟨len, n, ver, org⟩ : Rw)] = [] ++ [⟨len, n, ver, org⟩] from rfl, addRow_append _ _ _ _ _ _ (by omega)]
      simp
    | some r =>
      have hne : rs ≠ [] := by rintro rfl; cases hg
      have h1 := List.dropLast_concat_getLast hne
      rw [List.getLast?_eq_some_getLast hne] at hg
      rw [Option.some.inj hg] at h1
      rw [← h1, addRow_append _ _ _ _ _ _ h0, addRow_append _ _ _ _ _ _ (by omega)]
      by_cases h : r.ver = ver ∧ r.org + r.n = org
      · rw [if_pos h, if_pos h, addRow_append _ _ _ _ _ _ (by omega)]
        rw [if_pos ⟨h.1, by show r.org + (r.n + n) = org + n; omega⟩]
        simp; omega
      · rw [if_neg h, if_neg h, addRow_append _ _ _ _ _ _ (by omega)]
        rw [if_pos ⟨rfl, rfl⟩]

theorem rowsOf_run (Y : List Lt) (n : Nat) (ver org : Int) : rowsOf (Y ++ run n ver org) = addRow (rowsOf Y) Y.length n ver org := by
  induction n with
  | zero => rw [run_zero, List.append_nil]; exact (addRow_zero _ _ _ _).symm
  | succ n ih =>
    rw [run_succ, ← List.append_assoc, rowsOf_snoc, ih]
    have := addRow_again (rowsOf Y) Y.length n ver org (by omega)
    rw [List.length_append, run_len]
    simpa using this

theorem addRow_len (rs : List Rw) (len n ver org : Int) : (addRow rs len n ver org).length ≤ rs.length + 1 := by
  by_cases h : n = 0
  · subst h; rw [addRow_zero]; omega
  · rcases addRow_one (rs := rs) (len := len) (ver := ver) (org := org) h with e | ⟨i, r, e1, _, e⟩
    · rw [e]; simp
    · rw [e, e1]; simp

/-- The bound on lengths. -/
def BB : Int := 1152921504606846976

def LOk (T : List Lt) : Prop := ∀ l ∈ T, 0 ≤ l.org ∧ l.org < BB
def ROk (rs : List Rw) : Prop := ∀ r ∈ rs, 1 ≤ r.n ∧ 0 ≤ r.org ∧ r.org + r.n ≤ BB

theorem LOk.append {S T : List Lt} (hS : LOk S) (hT : LOk T) : LOk (S ++ T) := by
  intro l hl
  rcases List.mem_append.1 hl with h | h
  · exact hS l h
  · exact hT l h
theorem LOk.run {n : Nat} {ver org : Int} (h0 : 0 ≤ org) (h1 : org + n ≤ BB) : LOk (run n ver org) := by
  intro l hl
  obtain ⟨i, hi, rfl⟩ := List.mem_map.1 hl
  have := List.mem_range.1 hi
  constructor <;> dsimp only <;> omega

theorem ROk.add {rs : List Rw} (h : ROk rs) (len n ver org : Int) (hn : 0 ≤ n) (h0 : 0 ≤ org) (h1 : org + n ≤ BB) : ROk (addRow rs len n ver org) := by
  by_cases hz : n = 0
  · subst hz; rw [addRow_zero]; exact h
  · rcases addRow_one (rs := rs) (len := len) (ver := ver) (org := org) hz with e | ⟨i, r, e1, e2, e⟩
    · rw [e]
      intro x hx
      rcases List.mem_append.1 hx with g | g
      · exact h x g
      · simp at g; subst g; exact ⟨by dsimp only; omega, h0, h1⟩
    · rw [e]
      subst e1
      intro x hx
      have hr := h r (by simp)
      rcases List.mem_append.1 hx with g | g
      · exact h x (by simp [g])
      · simp at g; subst g; obtain ⟨k1, k2⟩ := e2; exact ⟨by dsimp only; omega, by dsimp only; omega, by dsimp only; omega⟩

theorem LOk.rows {T : List Lt} (h : LOk T) : ROk (rowsOf T) := by
  induction T using snoc_ind with
  | h0 => intro r hr; simp [rowsOf_nil] at hr
  | h1 T l ih =>
    rw [rowsOf_snoc]
    have hl := h l (by simp)
    exact ROk.add (ih (fun x hx => h x (by simp [hx]))) _ _ _ _ (by omega) hl.1 (by omega)

theorem ROk.last {rs : List Rw} (h : ROk rs) (n : Int) (hn : n ≤ 2305843009213693952) : lastOk rs n := by
  intro r hr
  have := h r (List.mem_of_getLast? hr)
  unfold BB at this
  omega

/-- The rows cover the letters from an offset on. -/
def Cv : Int → List Rw → List Lt → Prop
  | _, [], T => T = []
  | p, r :: rs, T => r.fr = p ∧ 1 ≤ r.n ∧ ∃ T', T = run r.n.toNat r.ver r.org ++ T' ∧ Cv (p + r.n) rs T'

theorem Cv.add (ver org : Int) : ∀ (rs : List Rw) (p : Int) (T : List Lt), Cv p rs T → Cv p (addRow rs (p + T.length) 1 ver org) (T ++ [⟨ver, org⟩])
  | [], p, T, h => by
    have : T = [] := h
    subst this
    have e : addRow [] (p + (([] : List Lt).length : Int)) 1 ver org = [⟨p, 1, ver, org⟩] := by simp [addRow]
    rw [e]
    exact ⟨rfl, by show (1 : Int) ≤ 1; omega, [], by simp [run], rfl⟩
  | [r], p, T, h => by
    obtain ⟨h1, h2, T', rfl, h4⟩ := h
    have : T' = [] := h4
    subst this
    rw [show [r] = [] ++ [r] from rfl, addRow_append _ _ _ _ _ _ (by omega)]
    have hrn : ((r.n.toNat : Nat) : Int) = r.n := by omega
    by_cases hm : r.ver = ver ∧ r.org + r.n = org
    · rw [if_pos hm]
      refine ⟨h1, by show 1 ≤ r.n + 1; omega, [], ?_, rfl⟩
      show _ = run (r.n + 1).toNat r.ver r.org ++ []
      rw [show (r.n + 1).toNat = r.n.toNat + 1 by omega, run_succ]
      simp [hm.1, ← hm.2, hrn]
    · rw [if_neg hm]
      refine ⟨h1, h2, [⟨ver, org⟩], by simp, ?_⟩
      refine ⟨?_, by show (1 : Int) ≤ 1; omega, [], by simp [run], rfl⟩
      simp [run_len]; omega
  | r :: r2 :: rest, p, T, h => by
    obtain ⟨h1, h2, T', rfl, h4⟩ := h
    have e : addRow (r :: r2 :: rest) (p + ((run r.n.toNat r.ver r.org ++ T').length : Int)) 1 ver org = r :: addRow (r2 :: rest) ((p + r.n) + (T'.length : Int)) 1 ver org := by
      have hl : p + ((run r.n.toNat r.ver r.org ++ T').length : Int) = (p + r.n) + (T'.length : Int) := by rw [List.length_append, run_len]; omega
      rw [hl]
      unfold addRow
      simp only [List.getLast?_cons_cons, List.dropLast_cons_cons]
      rw [if_neg (by omega), if_neg (by omega)]
      split
      · next hg => simp at hg
      · split <;> rfl
    rw [e]
    refine ⟨h1, h2, T' ++ [⟨ver, org⟩], by simp, ?_⟩
    exact Cv.add ver org (r2 :: rest) (p + r.n) T' h4

theorem Cv.rows (T : List Lt) : Cv 0 (rowsOf T) T := by
  induction T using snoc_ind with
  | h0 => rfl
  | h1 T l ih =>
    rw [rowsOf_snoc]
    have := Cv.add l.ver l.org _ _ _ ih
    rw [Int.zero_add] at this
    exact this

/-- The letters between two offsets. -/
def sl (T : List Lt) (a b : Int) : List Lt := (T.take b.toNat).drop a.toNat

theorem sl_split (T : List Lt) {a b c : Int} (h0 : 0 ≤ a) (h1 : a ≤ b) (h2 : b ≤ c) : sl T a b ++ sl T b c = sl T a c := by
  obtain ⟨x, rfl⟩ := Int.eq_ofNat_of_zero_le h0
  obtain ⟨y, rfl⟩ := Int.eq_ofNat_of_zero_le (a := b) (by omega)
  obtain ⟨z, rfl⟩ := Int.eq_ofNat_of_zero_le (a := c) (by omega)
  unfold sl
  simp only [Int.toNat_natCast] at *
  have hx : x ≤ y := by omega
  have hy : y ≤ z := by omega
  have e := List.take_append_drop (y - x) ((T.take z).drop x)
  rw [← e, List.drop_drop, ← List.drop_take, List.take_take, Nat.min_eq_left hy, show x + (y - x) = y by omega]

theorem sl_self (T : List Lt) (a : Int) : sl T a a = [] := by unfold sl; simp
theorem sl_end (T : List Lt) {a b : Int} (h : (T.length : Int) ≤ b) : sl T a b = T.drop a.toNat := by
  unfold sl; rw [List.take_of_length_le (by omega)]

theorem run_slice {n x y : Nat} (ver org : Int) (h1 : x ≤ y) (h2 : y ≤ n) : ((run n ver org).take y).drop x = run (y - x) ver (org + (x : Int)) := by
  obtain ⟨k, rfl⟩ := Nat.exists_eq_add_of_le h2
  obtain ⟨m, rfl⟩ := Nat.exists_eq_add_of_le h1
  rw [run_add, List.take_append_of_le_length (by simp [run_len]), List.take_of_length_le (by simp [run_len]), run_add, List.drop_append_of_le_length (by simp [run_len]), List.drop_of_length_le (by simp [run_len]), List.nil_append, Nat.add_sub_cancel_left]

theorem sl_row {T : List Lt} {p : Int} {r : Rw} {rs : List Rw} (hp : 0 ≤ p) (h : Cv p (r :: rs) (T.drop p.toNat)) {a b : Int} (h1 : p ≤ a) (h2 : a ≤ b) (h3 : b ≤ p + r.n) : sl T a b = run (b - a).toNat r.ver (r.org + (a - p)) := by
  obtain ⟨_, hn, T', hT, _⟩ := h
  have e : sl T a b = ((T.drop p.toNat).take (b.toNat - p.toNat)).drop (a.toNat - p.toNat) := by
    unfold sl
    rw [← List.drop_take, List.drop_drop, show p.toNat + (a.toNat - p.toNat) = a.toNat by omega]
  rw [e, hT, List.take_append_of_le_length (by rw [run_len]; omega), run_slice _ _ (by omega) (by omega)]
  rw [show b.toNat - p.toNat - (a.toNat - p.toNat) = (b - a).toNat by omega, show ((a.toNat - p.toNat : Nat) : Int) = a - p by omega]

theorem Cv.next {T : List Lt} {p : Int} {r : Rw} {rs : List Rw} (hp : 0 ≤ p) (h : Cv p (r :: rs) (T.drop p.toNat)) : Cv (p + r.n) rs (T.drop (p + r.n).toNat) := by
  obtain ⟨_, hn, T', hT, h4⟩ := h
  have e : T.drop (p + r.n).toNat = T' := by
    rw [show (p + r.n).toNat = p.toNat + r.n.toNat by omega, ← List.drop_drop, hT, List.drop_append_of_le_length (by rw [run_len]; omega), List.drop_of_length_le (by rw [run_len]; omega), List.nil_append]
  rw [e]; exact h4

theorem Cv.le {T : List Lt} {p : Int} {r : Rw} {rs : List Rw} (hp : 0 ≤ p) (h : Cv p (r :: rs) (T.drop p.toNat)) : p + r.n ≤ T.length := by
  obtain ⟨_, hn, T', hT, _⟩ := h
  have := congrArg List.length hT
  rw [List.length_drop, List.length_append, run_len] at this
  omega

theorem Cv.done {T : List Lt} {p : Int} (hp : 0 ≤ p) (h : Cv p [] (T.drop p.toNat)) : (T.length : Int) ≤ p := by
  have : T.drop p.toNat = [] := h
  have := congrArg List.length this
  rw [List.length_drop] at this
  simp at this
  omega

theorem sl_len (T : List Lt) (a b : Int) : ((sl T a b).length : Int) ≤ T.length := by
  unfold sl; rw [List.length_drop, List.length_take]; omega
theorem sl_len_eq (T : List Lt) {a b : Int} (h0 : 0 ≤ a) (h1 : a ≤ b) (h2 : b ≤ T.length) : ((sl T a b).length : Int) = b - a := by
  unfold sl; rw [List.length_drop, List.length_take]; omega
theorem LOk.sl {T : List Lt} (h : LOk T) (a b : Int) : LOk (sl T a b) := fun l hl => h l (List.mem_of_mem_take (List.mem_of_mem_drop hl))

/-- The letters of the next version, from a change on. -/
def applyC (ln : Int → Int) (ver : Int) (T : List Lt) : Int → List Lt → List Chg → List Lt
  | a, out, [] => out ++ T.drop a.toNat
  | a, out, c :: r => applyC ln ver T (c.at_ + c.n) (out ++ sl T a c.at_ ++ run (ln c.text).toNat ver ((out ++ sl T a c.at_).length : Int)) r

theorem applyC_len (ln : Int → Int) (ver : Int) (T : List Lt) : ∀ (cs : List Chg) (a : Int) (out : List Lt), out.length ≤ (applyC ln ver T a out cs).length
  | [], a, out => by unfold applyC; simp
  | c :: r, a, out => by
    unfold applyC
    refine Nat.le_trans ?_ (applyC_len ln ver T r _ _)
    simp

end Go.Proofs.Ytbokcmkbnkncoaa

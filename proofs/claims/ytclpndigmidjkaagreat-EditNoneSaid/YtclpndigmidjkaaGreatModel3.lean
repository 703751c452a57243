/- Plain words: the rules of a text, by halves. No program. -/
import Derived.Test.YtclpndigmidjkaaGreatModel2
set_option linter.unusedSimpArgs false
set_option linter.unusedVariables false
namespace Go.Proofs.YtclpndigmidjkaaGreat
open Go.RowKit

/-- Every entry is what its rule says. -/
def DOk (L : List Ent) : Prop := ∀ (i : Nat) (h : i < L.length),
  (L[i].rule.kind = 1 ∧ L[i] = letterEnt L[i].rule.letter) ∨
  (L[i].rule.kind = 2 ∧ (1 ≤ L[i].rule.left ∧ L[i].rule.left ≤ i ∧ 1 ≤ L[i].rule.right ∧ L[i].rule.right ≤ i) ∧ L[i] = pairEnt L L[i].rule.left L[i].rule.right) ∨
  (L[i].rule.kind = 3 ∧ (1 ≤ L[i].rule.left ∧ L[i].rule.left ≤ i) ∧ L[i] = powEnt L L[i].rule.left L[i].rule.times)

theorem DOk.nil : DOk [] := fun i h => by simp at h

theorem pairEnt_append (L M : List Ent) (l r : Int) (hl : isKnown L l) (hr : isKnown L r) : pairEnt (L ++ M) l r = pairEnt L l r := by
  unfold pairEnt; rw [entAt_append L M l hl, entAt_append L M r hr]
theorem powEnt_append (L M : List Ent) (x k : Int) (hx : isKnown L x) : powEnt (L ++ M) x k = powEnt L x k := by
  unfold powEnt; rw [entAt_append L M x hx]

theorem DOk.push {L : List Ent} (h : DOk L) (e : Ent)
    (he : (e.rule.kind = 1 ∧ e = letterEnt e.rule.letter) ∨ (e.rule.kind = 2 ∧ (1 ≤ e.rule.left ∧ e.rule.left ≤ L.length ∧ 1 ≤ e.rule.right ∧ e.rule.right ≤ L.length) ∧ e = pairEnt L e.rule.left e.rule.right) ∨
      (e.rule.kind = 3 ∧ (1 ≤ e.rule.left ∧ e.rule.left ≤ L.length) ∧ e = powEnt L e.rule.left e.rule.times)) : DOk (L ++ [e]) := by
  intro i hi
  rcases Nat.lt_or_ge i L.length with hlt | hge
  · rw [List.getElem_append_left hlt]
    rcases h i hlt with h1 | ⟨h1, h2, h3⟩ | ⟨h1, h2, h3⟩
    · exact .inl h1
    · refine .inr (.inl ⟨h1, h2, ?_⟩)
      rw [pairEnt_append _ _ _ _ ⟨by omega, by omega⟩ ⟨by omega, by omega⟩]; exact h3
    · refine .inr (.inr ⟨h1, h2, ?_⟩)
      rw [powEnt_append _ _ _ _ ⟨by omega, by omega⟩]; exact h3
  · have : i = L.length := by simp at hi; omega
    subst this
    have hg : (L ++ [e])[L.length] = e := by rw [List.getElem_append_right (Nat.le_refl _)]; simp
    rw [hg]
    rcases he with h1 | ⟨h1, h2, h3⟩ | ⟨h1, h2, h3⟩
    · exact .inl h1
    · refine .inr (.inl ⟨h1, h2, ?_⟩)
      rw [pairEnt_append _ _ _ _ ⟨by omega, by omega⟩ ⟨by omega, by omega⟩]; exact h3
    · refine .inr (.inr ⟨h1, h2, ?_⟩)
      rw [powEnt_append _ _ _ _ ⟨by omega, by omega⟩]; exact h3

theorem DOk.letter {L : List Ent} (h : DOk L) (b : Int) : DOk (addL L (letterEnt b)) := by
  cases hj : ruleIdx (letterEnt b).rule L with
  | some j => rw [addL_some hj]; exact h
  | none => rw [addL_none hj]; exact h.push _ (.inl ⟨rfl, rfl⟩)

theorem DOk.pair {L : List Ent} (h : DOk L) (l r : Int) (hl : isKnown L l) (hr : isKnown L r) (l0 : l ≠ 0) (r0 : r ≠ 0) : DOk (addL L (pairEnt L l r)) := by
  cases hj : ruleIdx (pairEnt L l r).rule L with
  | some j => rw [addL_some hj]; exact h
  | none =>
    rw [addL_none hj]
    obtain ⟨a, b⟩ := hl
    obtain ⟨c, d⟩ := hr
    exact h.push _ (.inr (.inl ⟨rfl, ⟨by show 1 ≤ l; omega, b, by show 1 ≤ r; omega, d⟩, rfl⟩))

theorem DOk.pow {L : List Ent} (h : DOk L) (x k : Int) (hx : isKnown L x) (x0 : x ≠ 0) : DOk (addL L (powEnt L x k)) := by
  cases hj : ruleIdx (powEnt L x k).rule L with
  | some j => rw [addL_some hj]; exact h
  | none =>
    rw [addL_none hj]
    obtain ⟨a, b⟩ := hx
    exact h.push _ (.inr (.inr ⟨rfl, ⟨by show 1 ≤ x; omega, b⟩, rfl⟩))

theorem entAt_last (L : List Ent) (e : Ent) : entAt (L ++ [e]) ((L.length : Int) + 1) = e := by
  rw [entAt_succ _ _ (by simp), List.getElem_append_right (Nat.le_refl _)]; simp

theorem ent_letter {L : List Ent} (h : DOk L) (b : Int) : entAt (addL L (letterEnt b)) (addI L (letterEnt b)) = letterEnt b := by
  cases hj : ruleIdx (letterEnt b).rule L with
  | some j =>
    rw [addL_some hj, addI_some hj]
    obtain ⟨h1, h2⟩ := ruleIdx_lt hj
    rw [entAt_succ _ _ h1]
    rcases h j h1 with ⟨_, h3⟩ | ⟨h3, _⟩ | ⟨h3, _⟩
    · rw [h2] at h3; exact h3
    · rw [h2] at h3; simp [letterEnt] at h3
    · rw [h2] at h3; simp [letterEnt] at h3
  | none => rw [addL_none hj, addI_none hj, entAt_last]

theorem ent_pair {L : List Ent} (h : DOk L) (l r : Int) : entAt (addL L (pairEnt L l r)) (addI L (pairEnt L l r)) = pairEnt L l r := by
  cases hj : ruleIdx (pairEnt L l r).rule L with
  | some j =>
    rw [addL_some hj, addI_some hj]
    obtain ⟨h1, h2⟩ := ruleIdx_lt hj
    rw [entAt_succ _ _ h1]
    rcases h j h1 with ⟨h3, _⟩ | ⟨_, _, h3⟩ | ⟨h3, _⟩
    · rw [h2] at h3; simp [pairEnt] at h3
    · rw [h2] at h3; exact h3
    · rw [h2] at h3; simp [pairEnt] at h3
  | none => rw [addL_none hj, addI_none hj, entAt_last]

theorem ent_pow {L : List Ent} (h : DOk L) (x k : Int) : entAt (addL L (powEnt L x k)) (addI L (powEnt L x k)) = powEnt L x k := by
  cases hj : ruleIdx (powEnt L x k).rule L with
  | some j =>
    rw [addL_some hj, addI_some hj]
    obtain ⟨h1, h2⟩ := ruleIdx_lt hj
    rw [entAt_succ _ _ h1]
    rcases h j h1 with ⟨h3, _⟩ | ⟨h3, _⟩ | ⟨_, _, h3⟩
    · rw [h2] at h3; simp [powEnt] at h3
    · rw [h2] at h3; simp [powEnt] at h3
    · rw [h2] at h3; exact h3
  | none => rw [addL_none hj, addI_none hj, entAt_last]

/-- The depth of a text by halves. -/
def clog (n : Nat) : Nat := Nat.log2 (2 * n - 1)

theorem log2_half (n : Nat) (h : 2 ≤ n) : Nat.log2 n = Nat.log2 (n / 2) + 1 := by rw [Nat.log2_def, if_pos h]

theorem log2_mono {a b : Nat} (ha : a ≠ 0) (h : a ≤ b) : Nat.log2 a ≤ Nat.log2 b :=
  (Nat.le_log2 (by omega)).2 (Nat.le_trans ((Nat.le_log2 ha).1 (Nat.le_refl _)) h)

theorem clog_step (n : Nat) (h : 2 ≤ n) : clog n = 1 + max (clog (n / 2)) (clog (n - n / 2)) ∧ clog (n / 2) ≤ clog (n - n / 2) ∧ clog (n - n / 2) ≤ clog (n / 2) + 1 := by
  have h1 : clog (n / 2) ≤ clog (n - n / 2) := log2_mono (by omega) (by omega)
  have h2 : clog n = 1 + clog (n - n / 2) := by
    unfold clog
    rw [log2_half (2 * n - 1) (by omega), Nat.add_comm]
    congr 1
    rcases Nat.mod_two_eq_zero_or_one n with e | e
    · congr 1; omega
    · have e1 : (2 * n - 1) / 2 = n - 1 := by omega
      have e2 : 2 * (n - n / 2) - 1 = n := by omega
      rw [e1, e2, log2_half n (by omega), log2_half (n - 1) (by omega)]
      congr 2
      omega
  have h3 : clog (n - n / 2) ≤ clog (n / 2) + 1 := by
    unfold clog
    have : Nat.log2 (2 * (n / 2) - 1) + 1 = Nat.log2 (2 * (2 * (n / 2) - 1) + 1) := by
      rw [log2_half (2 * (2 * (n / 2) - 1) + 1) (by omega)]
      congr 2
      omega
    rw [this]
    exact log2_mono (by omega) (by omega)
  exact ⟨by omega, h1, h3⟩

/-- What comes of a text's letters: the rules after it, and its ID. -/
def textR : Nat → List Ent → List Int → List Ent × Int
  | 0, L, _ => (L, 0)
  | f + 1, L, bs =>
    if bs.length = 1 then (addL L (letterEnt (bs.getD 0 0)), addI L (letterEnt (bs.getD 0 0))) else
    (addL (textR f (textR f L (bs.take (bs.length / 2))).1 (bs.drop (bs.length / 2))).1 (pairEnt (textR f (textR f L (bs.take (bs.length / 2))).1 (bs.drop (bs.length / 2))).1 (textR f L (bs.take (bs.length / 2))).2 (textR f (textR f L (bs.take (bs.length / 2))).1 (bs.drop (bs.length / 2))).2),
     addI (textR f (textR f L (bs.take (bs.length / 2))).1 (bs.drop (bs.length / 2))).1 (pairEnt (textR f (textR f L (bs.take (bs.length / 2))).1 (bs.drop (bs.length / 2))).1 (textR f L (bs.take (bs.length / 2))).2 (textR f (textR f L (bs.take (bs.length / 2))).1 (bs.drop (bs.length / 2))).2))

structure TextOk (L L' : List Ent) (id : Int) (n : Nat) : Prop where
  ext : ∃ M, L' = L ++ M
  len : L'.length + 1 ≤ L.length + 2 * n
  sok : SOk L'
  dok : DOk L'
  known : isKnown L' id
  ne : id ≠ 0
  wlen : (entAt L' id).wt.len = n
  even : (entAt L' id).even = true
  depth : (entAt L' id).depth = clog n

theorem letter_len (b : Int) : (Wt.letter b).len = 1 := by unfold Wt.letter; split <;> rfl

theorem TextOk.one {L : List Ent} (h : SOk L) (d : DOk L) (b : Int) (h0 : 0 ≤ b) (h1 : b < 256) : TextOk L (addL L (letterEnt b)) (addI L (letterEnt b)) 1 where
  ext := addL_ext L _
  len := by have := (addL_len L (letterEnt b)).2; omega
  sok := h.letter b h0 h1
  dok := d.letter b
  known := (addI_known L _).1
  ne := (addI_known L _).2
  wlen := by rw [ent_letter d]; exact letter_len b
  even := by rw [ent_letter d]; rfl
  depth := by rw [ent_letter d]; rfl

theorem TextOk.two {L A B : List Ent} {a b : Int} {n : Nat} (hn : 2 ≤ n) (hm : n ≤ 65536) (ha : TextOk L A a (n / 2)) (hb : TextOk A B b (n - n / 2)) : TextOk L (addL B (pairEnt B a b)) (addI B (pairEnt B a b)) n := by
  obtain ⟨M1, e1⟩ := ha.ext
  obtain ⟨M2, e2⟩ := hb.ext
  have ka : isKnown B a := by rw [e2]; exact isKnown_append M2 ha.known
  have ea : entAt B a = entAt A a := by rw [e2]; exact entAt_append A M2 a ha.known
  obtain ⟨c1, c2, c3⟩ := clog_step n hn
  have w1 := ha.wlen
  have w2 := hb.wlen
  have hlen : (entAt B a).wt.len + (entAt B b).wt.len ≤ 1152921504606846976 := by rw [ea, w1, w2]; omega
  refine ⟨?_, ?_, hb.sok.pair a b ka hb.known ha.ne hb.ne hlen, hb.dok.pair a b ka hb.known ha.ne hb.ne, (addI_known _ _).1, (addI_known _ _).2, ?_, ?_, ?_⟩
  · obtain ⟨M3, e3⟩ := addL_ext B (pairEnt B a b)
    exact ⟨M1 ++ M2 ++ M3, by rw [e3, e2, e1]; simp⟩
  · have := (addL_len B (pairEnt B a b)).2
    have := ha.len
    have := hb.len
    omega
  · rw [ent_pair hb.dok]
    show (entAt B a).wt.len + (entAt B b).wt.len = _
    rw [ea, w1, w2]; omega
  · rw [ent_pair hb.dok]
    show ((entAt B a).even && (entAt B b).even && decide (-1 ≤ (entAt B a).depth - (entAt B b).depth) && decide ((entAt B a).depth - (entAt B b).depth ≤ 1)) = true
    rw [ea, ha.even, hb.even, ha.depth, hb.depth]
    simp only [Bool.true_and, Bool.and_eq_true, decide_eq_true_eq]
    omega
  · rw [ent_pair hb.dok]
    show 1 + max (entAt B a).depth (entAt B b).depth = _
    rw [ea, ha.depth, hb.depth]
    omega

theorem textR_ok : ∀ (f : Nat) (L : List Ent) (bs : List Int), SOk L → DOk L → 1 ≤ bs.length → bs.length ≤ f → bs.length ≤ 65536 → (∀ x ∈ bs, 0 ≤ x ∧ x < 256) → TextOk L (textR f L bs).1 (textR f L bs).2 bs.length := by
  intro f
  induction f with
  | zero => intro L bs _ _ h1 h2; omega
  | succ f ih =>
    intro L bs hs hd h1 h2 h3 hr
    unfold textR
    by_cases h : bs.length = 1
    · rw [if_pos h, h]
      obtain ⟨b, rfl⟩ : ∃ b, bs = [b] := List.length_eq_one_iff.1 h
      exact TextOk.one hs hd b (hr b (by simp)).1 (hr b (by simp)).2
    · rw [if_neg h]
      have ia := ih L (bs.take (bs.length / 2)) hs hd (by simp; omega) (by simp; omega) (by simp; omega) (fun x hx => hr x (List.mem_of_mem_take hx))
      have ib := ih (textR f L (bs.take (bs.length / 2))).1 (bs.drop (bs.length / 2)) ia.sok ia.dok (by simp; omega) (by simp; omega) (by simp; omega) (fun x hx => hr x (List.mem_of_mem_drop hx))
      have e1 : (bs.take (bs.length / 2)).length = bs.length / 2 := by simp; omega
      have e2 : (bs.drop (bs.length / 2)).length = bs.length - bs.length / 2 := by simp
      rw [e1] at ia
      rw [e2] at ib
      exact TextOk.two (by omega) h3 ia ib

end Go.Proofs.YtclpndigmidjkaaGreat

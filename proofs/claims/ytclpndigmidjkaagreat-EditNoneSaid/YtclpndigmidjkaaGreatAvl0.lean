/- Plain words: the text of an ID, and what a step that makes a text leaves. No program. -/
import Derived.Test.YtclpndigmidjkaaGreatModel3
set_option linter.unusedSimpArgs false
set_option linter.unusedVariables false
namespace Go.Proofs.YtclpndigmidjkaaGreat
open Go.RowKit

/-- A text, so many times. -/
def reps (t : List Int) : Nat → List Int
  | 0 => []
  | k + 1 => t ++ reps t k

/-- The letters of an ID, with fuel. -/
def txtF (L : List Ent) : Nat → Int → List Int
  | 0, _ => []
  | f + 1, id =>
    if id = 0 then [] else
    if (entAt L id).rule.kind = 1 then [(entAt L id).rule.letter] else
    if (entAt L id).rule.kind = 2 then txtF L f (entAt L id).rule.left ++ txtF L f (entAt L id).rule.right else
    reps (txtF L f (entAt L id).rule.left) (entAt L id).rule.times.toNat

/-- The letters of an ID. -/
def txt (L : List Ent) (id : Int) : List Int := txtF L id.toNat id

theorem DOk.at {L : List Ent} (h : DOk L) (id : Int) (hk : isKnown L id) (h0 : id ≠ 0) :
    ((entAt L id).rule.kind = 1 ∧ entAt L id = letterEnt (entAt L id).rule.letter) ∨
    ((entAt L id).rule.kind = 2 ∧ (1 ≤ (entAt L id).rule.left ∧ (entAt L id).rule.left < id ∧ 1 ≤ (entAt L id).rule.right ∧ (entAt L id).rule.right < id) ∧ entAt L id = pairEnt L (entAt L id).rule.left (entAt L id).rule.right) ∨
    ((entAt L id).rule.kind = 3 ∧ (1 ≤ (entAt L id).rule.left ∧ (entAt L id).rule.left < id) ∧ entAt L id = powEnt L (entAt L id).rule.left (entAt L id).rule.times) := by
  obtain ⟨k, rfl⟩ : ∃ k : Nat, id = (k : Int) + 1 := ⟨(id - 1).toNat, by have := hk.1; omega⟩
  have hlt : k < L.length := by have := hk.2; omega
  rw [entAt_succ L k hlt]
  rcases h k hlt with g | ⟨g1, g2, g3⟩ | ⟨g1, g2, g3⟩
  · exact .inl g
  · exact .inr (.inl ⟨g1, ⟨g2.1, by omega, g2.2.2.1, by omega⟩, g3⟩)
  · exact .inr (.inr ⟨g1, ⟨g2.1, by omega⟩, g3⟩)

/-- Fuel beyond the ID does not matter. -/
theorem txtF_eq {L : List Ent} (h : DOk L) : ∀ (n f : Nat) (id : Int), isKnown L id → id.toNat ≤ n → id.toNat ≤ f → txtF L f id = txtF L id.toNat id := by
  intro n
  induction n with
  | zero =>
    intro f id hk h1 h2
    have h0 : id = 0 := by have := hk.1; omega
    subst h0
    cases f with
    | zero => rfl
    | succ f => simp [txtF]
  | succ n ih =>
    intro f id hk h1 h2
    by_cases h0 : id = 0
    · subst h0
      cases f with
      | zero => rfl
      | succ f => simp [txtF]
    · obtain ⟨g, hg⟩ : ∃ g : Nat, id.toNat = g + 1 := ⟨id.toNat - 1, by have := hk.1; omega⟩
      obtain ⟨f', rfl⟩ : ∃ f' : Nat, f = f' + 1 := ⟨f - 1, by omega⟩
      rw [hg]
      have key : ∀ x : Int, 1 ≤ x → x < id → txtF L f' x = txtF L g x := by
        intro x h3 h4
        have hkx : isKnown L x := ⟨by omega, by have := hk.2; omega⟩
        rw [ih f' x hkx (by omega) (by omega), ih g x hkx (by omega) (by omega)]
      simp only [txtF]
      rw [if_neg h0, if_neg h0]
      rcases h.at id hk h0 with ⟨k1, _⟩ | ⟨k1, k2, _⟩ | ⟨k1, k2, _⟩
      · rw [if_pos k1, if_pos k1]
      · rw [if_neg (by omega), if_pos k1, if_neg (by omega), if_pos k1, key _ k2.1 k2.2.1, key _ k2.2.2.1 k2.2.2.2]
      · rw [if_neg (by omega), if_neg (by omega), if_neg (by omega), if_neg (by omega), key _ k2.1 k2.2]

theorem txt_zero (L : List Ent) : txt L 0 = [] := rfl

/-- The text of a Pair. -/
theorem txt_pair {L : List Ent} (h : DOk L) {id : Int} (hk : isKnown L id) (h0 : id ≠ 0) (h2 : (entAt L id).rule.kind = 2) : txt L id = txt L (entAt L id).rule.left ++ txt L (entAt L id).rule.right := by
  obtain ⟨g, hg⟩ : ∃ g : Nat, id.toNat = g + 1 := ⟨id.toNat - 1, by have := hk.1; omega⟩
  rcases h.at id hk h0 with ⟨k1, _⟩ | ⟨k1, k2, _⟩ | ⟨k1, k2, _⟩
  · omega
  · unfold txt
    rw [hg]
    simp only [txtF]
    rw [if_neg h0, if_neg (by omega), if_pos k1]
    have hb := hk.2
    rw [txtF_eq h g g _ ⟨by omega, by omega⟩ (by omega) (by omega), txtF_eq h g g _ ⟨by omega, by omega⟩ (by omega) (by omega)]
  · omega

theorem txt_letter {L : List Ent} {id : Int} (hk : isKnown L id) (h0 : id ≠ 0) (h1 : (entAt L id).rule.kind = 1) : txt L id = [(entAt L id).rule.letter] := by
  obtain ⟨g, hg⟩ : ∃ g : Nat, id.toNat = g + 1 := ⟨id.toNat - 1, by have := hk.1; omega⟩
  unfold txt
  rw [hg]
  simp only [txtF]
  rw [if_neg h0, if_pos h1]

theorem txtF_append {L : List Ent} (h : DOk L) (M : List Ent) : ∀ (f : Nat) (id : Int), isKnown L id → txtF (L ++ M) f id = txtF L f id
  | 0, id, hk => rfl
  | f + 1, id, hk => by
    simp only [txtF]
    by_cases h0 : id = 0
    · rw [if_pos h0, if_pos h0]
    · rw [if_neg h0, if_neg h0, entAt_append L M id hk]
      have hb := hk.2
      rcases h.at id hk h0 with ⟨k1, _⟩ | ⟨k1, k2, _⟩ | ⟨k1, k2, _⟩
      · rw [if_pos k1, if_pos k1]
      · rw [if_neg (by omega), if_pos k1, if_neg (by omega), if_pos k1, txtF_append h M f _ ⟨by omega, by omega⟩, txtF_append h M f _ ⟨by omega, by omega⟩]
      · rw [if_neg (by omega), if_neg (by omega), if_neg (by omega), if_neg (by omega), txtF_append h M f _ ⟨by omega, by omega⟩]

theorem txt_append {L : List Ent} (h : DOk L) (M : List Ent) {id : Int} (hk : isKnown L id) : txt (L ++ M) id = txt L id := txtF_append h M _ id hk

/-- A balanced ID of a text. -/
structure Bal (L : List Ent) (id : Int) (t : List Int) (d : Int) : Prop where
  known : isKnown L id
  ne : id ≠ 0
  text : txt L id = t
  even : (entAt L id).even = true
  depth : (entAt L id).depth = d

theorem Bal.more {L : List Ent} (h : DOk L) {id : Int} {t : List Int} {d : Int} (hb : Bal L id t d) (M : List Ent) : Bal (L ++ M) id t d :=
  ⟨isKnown_append M hb.known, hb.ne, by rw [txt_append h M hb.known]; exact hb.text, by rw [entAt_append L M id hb.known]; exact hb.even, by rw [entAt_append L M id hb.known]; exact hb.depth⟩

/-- What a step leaves: at most n rules more. -/
structure Grows (L L' : List Ent) (n : Nat) : Prop where
  ext : ∃ M, L' = L ++ M
  len : L'.length ≤ L.length + n
  sok : SOk L'
  dok : DOk L'

theorem Grows.refl {L : List Ent} (h : SOk L) (d : DOk L) : Grows L L 0 := ⟨⟨[], by simp⟩, by omega, h, d⟩
theorem Grows.trans {A B C : List Ent} {m n k : Nat} (h : Grows A B m) (g : Grows B C n) (hk : m + n ≤ k) : Grows A C k := by
  obtain ⟨M, e⟩ := h.ext
  obtain ⟨N, f⟩ := g.ext
  exact ⟨⟨M ++ N, by rw [f, e]; simp⟩, by have := h.len; have := g.len; omega, g.sok, g.dok⟩
theorem Grows.bal {L L' : List Ent} {n : Nat} (h : Grows L L' n) (hd : DOk L) {id : Int} {t : List Int} {d : Int} (hb : Bal L id t d) : Bal L' id t d := by
  obtain ⟨M, e⟩ := h.ext
  rw [e]; exact hb.more hd M

theorem bal_len {L : List Ent} (hd : DOk L) (hs : SOk L) : ∀ (n : Nat) (id : Int), id.toNat ≤ n → isKnown L id → (entAt L id).even = true → ((txt L id).length : Int) = (entAt L id).wt.len := by
  intro n
  induction n with
  | zero =>
    intro id h1 hk he
    have h0 : id = 0 := by have := hk.1; omega
    subst h0
    rfl
  | succ n ih =>
    intro id h1 hk he
    by_cases h0 : id = 0
    · subst h0; rfl
    · have hb := hk.2
      rcases hd.at id hk h0 with ⟨k1, k2⟩ | ⟨k1, k2, k3⟩ | ⟨k1, k2, k3⟩
      · rw [txt_letter hk h0 k1, k2]
        show (1 : Int) = (Wt.letter _).len
        rw [letter_len]
      · rw [txt_pair hd hk h0 k1]
        rw [k3] at he
        simp only [pairEnt, Bool.and_eq_true] at he
        have il := ih (entAt L id).rule.left (by omega) ⟨by omega, by omega⟩ he.1.1.1
        have ir := ih (entAt L id).rule.right (by omega) ⟨by omega, by omega⟩ he.1.1.2
        have hw : (entAt L id).wt.len = (entAt L (entAt L id).rule.left).wt.len + (entAt L (entAt L id).rule.right).wt.len := by
          have := congrArg (fun e => e.wt.len) k3
          simpa [pairEnt, Wt.join] using this
        rw [List.length_append, hw]
        omega
      · rw [k3] at he
        cases he

/-- The parts of a balanced Pair. -/
theorem bal_parts {L : List Ent} (hd : DOk L) {id : Int} {t : List Int} {d : Int} (hb : Bal L id t d) (h1 : 1 ≤ d) : ∃ l r tl tr dl dr, (entAt L id).rule = ⟨2, 0, l, r, 0⟩ ∧ Bal L l tl dl ∧ Bal L r tr dr ∧ t = tl ++ tr ∧ d = 1 + max dl dr ∧ -1 ≤ dl - dr ∧ dl - dr ≤ 1 := by
  have hk := hb.known
  have hbk := hk.2
  rcases hd.at id hk hb.ne with ⟨k1, k2⟩ | ⟨k1, k2, k3⟩ | ⟨k1, k2, k3⟩
  · have := hb.depth
    rw [k2] at this
    have : (0 : Int) = d := this
    omega
  · have he := hb.even
    have hdep := hb.depth
    have hru := congrArg (fun e => e.rule) k3
    rw [k3] at he hdep
    simp only [pairEnt, Bool.and_eq_true, decide_eq_true_eq] at he hdep
    refine ⟨_, _, _, _, _, _, hru, ⟨⟨by omega, by omega⟩, by omega, rfl, he.1.1.1, rfl⟩, ⟨⟨by omega, by omega⟩, by omega, rfl, he.1.1.2, rfl⟩, ?_, hdep.symm, he.1.2, he.2⟩
    rw [← hb.text, txt_pair hd hk hb.ne k1]
  · have he := hb.even
    rw [k3] at he
    cases he

/-- A Pair of balanced texts whose depths differ by at most 1. -/
theorem bal_pair {L : List Ent} (hs : SOk L) (hd : DOk L) {a b : Int} {s t : List Int} {da db : Int} (ha : Bal L a s da) (hb : Bal L b t db) (h1 : -1 ≤ da - db) (h2 : da - db ≤ 1) (hl : (s.length : Int) + t.length ≤ 1152921504606846976) :
    Grows L (addL L (pairEnt L a b)) 1 ∧ Bal (addL L (pairEnt L a b)) (addI L (pairEnt L a b)) (s ++ t) (1 + max da db) := by
  have la := bal_len hd hs a.toNat a (Nat.le_refl _) ha.known ha.even
  have lb := bal_len hd hs b.toNat b (Nat.le_refl _) hb.known hb.even
  rw [ha.text] at la
  rw [hb.text] at lb
  have hd' := hd.pair a b ha.known hb.known ha.ne hb.ne
  have g : Grows L (addL L (pairEnt L a b)) 1 := ⟨addL_ext L _, (addL_len L _).2, hs.pair a b ha.known hb.known ha.ne hb.ne (by omega), hd'⟩
  have he := ent_pair hd a b
  have hk := addI_known L (pairEnt L a b)
  refine ⟨g, ⟨hk.1, hk.2, ?_, ?_, ?_⟩⟩
  · have k2 : (entAt (addL L (pairEnt L a b)) (addI L (pairEnt L a b))).rule.kind = 2 := by rw [he]; rfl
    rw [txt_pair hd' hk.1 hk.2 k2, he]
    show txt _ a ++ txt _ b = _
    rw [(g.bal hd ha).text, (g.bal hd hb).text]
  · rw [he]
    show ((entAt L a).even && (entAt L b).even && decide (-1 ≤ (entAt L a).depth - (entAt L b).depth) && decide ((entAt L a).depth - (entAt L b).depth ≤ 1)) = true
    rw [ha.even, hb.even, ha.depth, hb.depth]
    simp [h1, h2]
  · rw [he]
    show 1 + max (entAt L a).depth (entAt L b).depth = _
    rw [ha.depth, hb.depth]

end Go.Proofs.YtclpndigmidjkaaGreat

/- Plain laws of PatchChecks: what its second loop knows. -/
import Derived.Test.YtclpndigmidjkaaGreatQPat6
set_option linter.unusedSimpArgs false
set_option linter.unusedVariables false
namespace Go.Proofs.YtclpndigmidjkaaGreat
open Go.RowKit

/-- What the loops leave: the number of the error, and the lengths. -/
def CkR (L : List Ent) (length : Int) (cs : List Chg) (n size kept : Int) (lg : Bool) : Prop :=
  Want L length cs n ∧ (n = 0 → kept = length - sumN cs ∧ (lg = false → size = sumT (lnL L) cs ∧ size ≤ 1152921504606846976) ∧ (lg = true → 1152921504606846976 < sumT (lnL L) cs))

/-- The state of the second loop. -/
structure L2 (w2 wr : World) (L : List Ent) (length : Int) (cs : List Chg) (k : Nat) (e size kept : Int) (lg : Bool) : Prop where
  fr : Fr0 w2 wr
  form : formedFrom length e (cs.drop k) = formedFrom length (-1) cs
  ev : ∀ c ∈ cs.take k, (entAt L c.text).even = true
  e0 : -1 ≤ e
  e1 : e ≤ length
  kept : kept = length - sumN (cs.take k)
  s0 : 0 ≤ sumN (cs.take k)
  s1 : sumN (cs.take k) ≤ e + 1
  sz : lg = false → size = sumT (lnL L) (cs.take k) ∧ size ≤ 1152921504606846976
  sl : lg = true → 1152921504606846976 < sumT (lnL L) (cs.take k)

theorem L2.zero {w2 wr : World} {L : List Ent} {length : Int} {cs : List Chg} (hf : Fr0 w2 wr) (h0 : 0 ≤ length) : L2 w2 wr L length cs 0 (-1) 0 length false :=
  ⟨hf, rfl, fun c hc => by simp at hc, by omega, by omega, by simp [sumN], by simp [sumN], by simp [sumN], fun _ => by simp [sumT], fun h => by cases h⟩

theorem L2.next {w2 wr wx : World} {L : List Ent} {length : Int} {cs : List Chg} {k : Nat} {e size kept : Int} {lg : Bool} (h : L2 w2 wr L length cs k e size kept lg) (hlt : k < cs.length)
    (hfit : fitB length e cs[k] = true) (hev : (entAt L cs[k].text).even = true) (hf : Fr0 w2 wx) {size' kept' : Int} {lg' : Bool} (hk : kept' = kept - cs[k].n) (hn : 0 ≤ lnL L cs[k].text) (hp : 0 ≤ sumT (lnL L) (cs.take k))
    (h1 : lg = false → size' = size + lnL L cs[k].text ∧ (lg' = false → size' ≤ 1152921504606846976) ∧ (lg' = true → 1152921504606846976 < size')) (h2 : lg = true → lg' = true) :
    L2 w2 wx L length cs (k + 1) (cs[k].at_ + cs[k].n) size' kept' lg' := by
  obtain ⟨a1, a2, a3, a4, a5⟩ := fitB_true hfit
  have hT : cs.take (k + 1) = cs.take k ++ [cs[k]] := List.take_succ_eq_append_getElem hlt
  have hs := sumN_snoc (cs.take k) cs[k]
  have ht := sumT_snoc (lnL L) (cs.take k) cs[k]
  have hform := h.form
  rw [List.drop_eq_getElem_cons hlt] at hform
  simp only [formedFrom, hfit, Bool.true_and] at hform
  obtain ⟨b0, b1, b2, b3, b4, b5, b6, b7⟩ := (⟨h.e0, h.e1, h.kept, h.s0, h.s1, h.sz, h.sl, trivial⟩ : _ ∧ _ ∧ _ ∧ _ ∧ _ ∧ _ ∧ _ ∧ True)
  refine ⟨hf, hform, ?_, by omega, by omega, by rw [hT, hs]; omega, by rw [hT, hs]; omega, by rw [hT, hs]; omega, ?_, ?_⟩
  · intro c hc
    rw [hT] at hc
    rcases List.mem_append.1 hc with hc | hc
    · exact h.ev c hc
    · simp at hc; subst hc; exact hev
  · intro hl
    cases hlg : lg with
    | true => rw [h2 hlg] at hl; cases hl
    | false =>
      obtain ⟨c1, c2, _⟩ := h1 hlg
      obtain ⟨d1, _⟩ := b5 hlg
      exact ⟨by rw [hT, ht, c1, d1], c2 hl⟩
  · intro hl
    rw [hT, ht]
    cases hlg : lg with
    | true => have := b6 hlg; omega
    | false =>
      obtain ⟨c1, _, c3⟩ := h1 hlg
      obtain ⟨d1, _⟩ := b5 hlg
      have := c3 hl
      omega

theorem L2.done {w2 wr : World} {L : List Ent} {length : Int} {cs : List Chg} {k : Nat} {e size kept : Int} {lg : Bool} (h : L2 w2 wr L length cs k e size kept lg) (hk : ¬ k < cs.length)
    (ha : (lenOk length && allKnown L cs) = true) : CkR L length cs 0 size kept lg := by
  have hT : cs.take k = cs := List.take_of_length_le (by omega)
  have hD : cs.drop k = [] := List.drop_of_length_le (by omega)
  have h1 := h.form
  have h2 := h.ev
  have h3 := h.kept
  have h4 := h.sz
  have h5 := h.sl
  rw [hD] at h1
  rw [hT] at h2 h3 h4 h5
  exact ⟨.inr (.inr ⟨rfl, ha, by rw [← h1, (allEven_iff _ _).2 h2]; rfl⟩), fun _ => ⟨h3, h4, h5⟩⟩

theorem L2.bad {w2 wr : World} {L : List Ent} {length : Int} {cs : List Chg} {k : Nat} {e size kept : Int} {lg : Bool} (h : L2 w2 wr L length cs k e size kept lg) (hlt : k < cs.length)
    (ha : (lenOk length && allKnown L cs) = true) (hb : fitB length e cs[k] = false ∨ (entAt L cs[k].text).even = false) {s2 k2 : Int} {l2 : Bool} : CkR L length cs 4 s2 k2 l2 := by
  refine ⟨.inr (.inl ⟨rfl, ha, ?_⟩), fun h => by cases h⟩
  rcases hb with hb | hb
  · have hform := h.form
    rw [List.drop_eq_getElem_cons hlt] at hform
    simp only [formedFrom, hb, Bool.false_and] at hform
    rw [← hform]; rfl
  · rw [Bool.and_eq_false_iff]
    refine .inr ?_
    cases hx : allEven L cs with
    | false => rfl
    | true => rw [(allEven_iff _ _).1 hx _ (List.getElem_mem hlt)] at hb; cases hb

theorem CkR.one {L : List Ent} {length : Int} {cs : List Chg} (ha : (lenOk length && allKnown L cs) = false) {s2 k2 : Int} {l2 : Bool} : CkR L length cs 1 s2 k2 l2 := ⟨.inl ⟨rfl, ha⟩, fun h => by cases h⟩

theorem fitB_false {length last : Int} {c : Chg} (h : c.at_ < 0 ∨ c.n < 0 ∨ length < c.at_ + c.n ∨ c.at_ ≤ last ∨ (c.n = 0 ∧ c.text = 0)) : fitB length last c = false := by
  unfold fitB
  rw [decide_eq_false_iff_not]
  rintro ⟨a1, a2, a3, a4, a5⟩
  rcases h with h | h | h | h | h
  · omega
  · omega
  · omega
  · omega
  · exact a5 h
theorem fitB_mk {length last : Int} {c : Chg} (a1 : 0 ≤ c.at_) (a2 : 0 ≤ c.n) (a3 : c.at_ + c.n ≤ length) (a4 : last < c.at_) (a5 : ¬ (c.n = 0 ∧ c.text = 0)) : fitB length last c = true := decide_eq_true ⟨a1, a2, a3, a4, a5⟩

end Go.Proofs.YtclpndigmidjkaaGreat

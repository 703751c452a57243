/- The walk of BlameRows. -/
import Derived.Test.YtbokcmkbnkncoaaRow1
import Derived.Test.YtbokcmkbnkncoaaRow2
import Derived.Test.YtbokcmkbnkncoaaCov2
set_option linter.unusedSimpArgs false
set_option linter.unusedVariables false
namespace Go.Proofs.Ytbokcmkbnkncoaa
open Go.RowKit

/-- Lists of changes that the call has made. -/
structure Outs (w wr : World) (ov : Value) (out : List (List Chg)) : Prop where
  own : ∃ vs : List Value, wr.ownsRow 0 31 1 ov out.length vs ∧ ∀ i (h : i < out.length), ∃ v, vs[i]? = some v ∧ wr.ownsRow 0 71 3 v out[i].length (chgCells out[i])
  new : ∀ k, ov.ownBlock = some k → w.heap.size ≤ k

theorem Outs.kept0 {w wr w' : World} {ov : Value} {out : List (List Chg)} (h : Outs w wr ov out) (hf : Fr0 wr w') : Outs w w' ov out := by
  obtain ⟨vs, h1, h2⟩ := h.own
  exact ⟨⟨vs, hf.owns h1, fun i hi => by obtain ⟨v, a, b⟩ := h2 i hi; exact ⟨v, a, hf.owns b⟩⟩, h.new⟩

theorem psAt_of_outs {w wr : World} {ov : Value} {out : List (List Chg)} (h : Outs w wr ov out) : ∃ a cap, ov = .slice a out.length cap ∧ PsAt wr a out := by
  obtain ⟨vs, h1, h2⟩ := h.own
  obtain ⟨a, cap, rfl⟩ := owns_form h1
  refine ⟨a, cap, rfl, ?_⟩
  intro i hi
  obtain ⟨lb, cap', hsv, _, _⟩ := h1.form (by omega)
  simp only [Value.slice.injEq] at hsv
  obtain ⟨rfl, _, _⟩ := hsv
  obtain ⟨v, k1, k2⟩ := h2 i hi
  obtain ⟨va, vc, rfl⟩ := owns_form k2
  have hc := owns_cell h1 i _ k1
  exact ⟨lb, 0, va, vc, rfl, World.block_lt_of_cell? wr _ hc, by simpa using hc, (chgsAt_of_owns k2).2⟩

theorem Outs.push {w wc w1 : World} {ov v : Value} {out : List (List Chg)} {xs : List Chg} {vs : List Value} {o1 : Obj} {g1 c1 : Nat} (h : Outs w wc ov out) (hF : Fr0 w wc)
    (ho : wc.ownsRow 0 31 1 ov out.length vs) (hi : ∀ i (h : i < out.length), ∃ v, vs[i]? = some v ∧ wc.ownsRow 0 71 3 v out[i].length (chgCells out[i])) (hv : wc.ownsRow 0 71 3 v xs.length (chgCells xs))
    (hg1 : (wc.alloc o1).grownBy w1 ov.ownBlock) (hw1 : w1.ownsRow 0 31 1 (.slice (some ⟨g1, 0, none⟩) (out.length + 1) c1) (out.length + 1) (vs ++ [v])) (ha1 : ov.ownBlock = some g1 ∨ g1 = wc.heap.size + 1) :
    Outs w w1 (.slice (some ⟨g1, 0, none⟩) (out.length + 1) c1) (out ++ [xs]) ∧ Fr0 w w1 := by
  have fa : Fr0 w w1 := Fr.grown (Fr.alloc hF o1) hg1 (fun j hj hlt => by have := h.new j hj; omega)
  have key : ∀ (u : Value) (ys : List Chg), wc.ownsRow 0 71 3 u ys.length (chgCells ys) → w1.ownsRow 0 71 3 u ys.length (chgCells ys) := by
    intro u ys hu
    exact owns_grown hg1 (hu.alloc o1) (fun k hk => owns_apart hu ho (by decide) k hk)
  have hvl : vs.length = out.length := by have := ho.1; omega
  refine ⟨⟨⟨vs ++ [v], ?_, ?_⟩, ?_⟩, fa⟩
  · rw [List.length_append]; exact hw1
  · intro i hilt
    rcases Nat.lt_or_ge i out.length with e | e
    · obtain ⟨u, k1, k2⟩ := hi i e
      refine ⟨u, ?_, ?_⟩
      · rw [List.getElem?_append_left (by omega)]; exact k1
      · rw [List.getElem_append_left e]; exact key u _ k2
    · have : i = out.length := by simp at hilt; omega
      subst this
      refine ⟨v, ?_, ?_⟩
      · rw [← hvl]; simp
      · rw [List.getElem_append_right (Nat.le_refl _)]; simpa using key v xs hv
  · intro k hk
    simp [Value.ownBlock] at hk
    subst hk
    have := hF.size'
    rcases ha1 with e | e
    · exact h.new _ e
    · omega

/-- What the law finds wrong with a patch, and what the patch's error is. -/
theorem outC_unknown {ids : List Int} {pw : Int} {L : List Ent} (hi : TextsOk L ids) (hl : ids.length = 10) (hp : isKnown L pw ∧ pw ≠ 0 ∧ (entAt L pw).even = false) (cs : List Chg) : unknownB L (cs.map (outC ids pw)) = unkF cs := by
  unfold unknownB unkF
  rw [List.any_map]
  congr 1
  funext c
  by_cases h1 : c.text = -1
  · have e : (outC ids pw c).text = -1 := by unfold outC; rw [if_pos h1]
    simp only [Function.comp, e, h1]
    simp
  · have e1 : (c.text == -1) = false := by simpa using h1
    by_cases h2 : c.text = -2
    · have e : (outC ids pw c).text = pw := by unfold outC; rw [if_neg h1, if_pos h2]
      obtain ⟨⟨a, b⟩, _⟩ := hp
      simp only [Function.comp, e, e1]
      simp [a, b]
    · have e : (outC ids pw c).text = ids.getD (pk c.text) 0 := by unfold outC; rw [if_neg h1, if_neg h2]
      obtain ⟨⟨a, b⟩, _⟩ := ids_facts hi hl (pk_spec c.text).1
      simp only [Function.comp, e, e1]
      generalize ids.getD (pk c.text) 0 = x at *
      simp [a, b]

theorem modC_fits {ids : List Int} {pw : Int} {L : List Ent} (hi : TextsOk L ids) (hl : ids.length = 10) (length : Int) : ∀ (cs : List Chg) (last : Int), unkF cs = false → powF cs = false → formedFrom length last (cs.map modC) = formedFrom length last (cs.map (outC ids pw))
  | [], last, _, _ => rfl
  | c :: r, last, hu, hp => by
    simp only [unkF, List.any_cons, Bool.or_eq_false_iff] at hu
    simp only [powF, List.any_cons, Bool.or_eq_false_iff] at hp
    have h1 : c.text ≠ -1 := by simpa using hu.1
    have h2 : c.text ≠ -2 := by simpa using hp.1
    have e : outC ids pw c = ⟨c.at_, c.n, ids.getD (pk c.text) 0⟩ := by unfold outC; rw [if_neg h1, if_neg h2]
    have f := ids_facts hi hl (pk_spec c.text).1
    have hz : ((pk c.text : Int) = 0) ↔ (ids.getD (pk c.text) 0 = 0) := by
      constructor
      · intro h
        have : pk c.text = 0 := by omega
        rw [this]
        have hz0 := hi.zero (by omega)
        rw [List.getD_eq_getElem?_getD, List.getElem?_eq_getElem (by omega)]
        exact hz0
      · intro h
        refine Classical.byContradiction fun hx => ?_
        exact f.2.2.2 (by omega) h
    simp only [List.map_cons]
    unfold formedFrom
    rw [modC_fits hi hl length r _ hu.2 hp.2]
    have hfit : fitB length last (modC c) = fitB length last (outC ids pw c) := by
      unfold fitB
      refine decide_eq_decide.2 ?_
      rw [e]
      simp only [modC]
      rw [hz]
    rw [hfit, e]
    rfl

/-- The error of a patch, by the law's own reckoning. -/
theorem patchErr_law {ids : List Int} {pw : Int} {L : List Ent} (hi : TextsOk L ids) (hl : ids.length = 10) (hp : isKnown L pw ∧ pw ≠ 0 ∧ (entAt L pw).even = false) (length : Int) (cs : List Chg) :
    patchErr L length (cs.map (outC ids pw)) = if codeF cs = 0 then (if formedFrom length (-1) (cs.map modC) then 0 else 4) else codeF cs := by
  unfold patchErr codeF
  rw [outC_unknown hi hl hp]
  cases hu : unkF cs with
  | true => simp
  | false =>
    cases hv : powF cs with
    | true =>
      have hune : unevenB L (cs.map (outC ids pw)) = true := by
        unfold unevenB
        rw [List.any_map]
        obtain ⟨c, hc, hx⟩ := List.any_eq_true.1 hv
        refine List.any_eq_true.2 ⟨c, hc, ?_⟩
        have h2 : c.text = -2 := by simpa using hx
        have e : outC ids pw c = ⟨c.at_, c.n, pw⟩ := by unfold outC; rw [if_neg (by omega), if_pos h2]
        simp only [Function.comp, e, hp.2.2]
        rfl
      rw [hune]
      simp
    | false =>
      rw [modC_fits (pw := pw) hi hl length cs (-1) hu hv]
      have hune : unevenB L (cs.map (outC ids pw)) = false := by
        unfold unevenB
        rw [List.any_map]
        refine List.any_eq_false.2 fun c hc => ?_
        have h1 : c.text ≠ -1 := by have := List.any_eq_false.1 hu c hc; simpa using this
        have h2 : c.text ≠ -2 := by have := List.any_eq_false.1 hv c hc; simpa using this
        have e : outC ids pw c = ⟨c.at_, c.n, ids.getD (pk c.text) 0⟩ := by unfold outC; rw [if_neg h1, if_neg h2]
        have f := ids_facts hi hl (pk_spec c.text).1
        simp only [Function.comp, e, f.2.1]
        simp
      rw [hune]
      cases formedFrom length (-1) (cs.map (outC ids pw)) <;> simp

theorem applyC_mod {ids : List Int} {pw : Int} {L : List Ent} (hi : TextsOk L ids) (hl : ids.length = 10) (ver : Int) (T : List Lt) : ∀ (cs : List Chg) (a : Int) (out : List Lt), unkF cs = false → powF cs = false → applyC id ver T a out (cs.map modC) = applyC (lnL L) ver T a out (cs.map (outC ids pw))
  | [], a, out, _, _ => rfl
  | c :: r, a, out, hu, hp => by
    simp only [unkF, List.any_cons, Bool.or_eq_false_iff] at hu
    simp only [powF, List.any_cons, Bool.or_eq_false_iff] at hp
    have h1 : c.text ≠ -1 := by simpa using hu.1
    have h2 : c.text ≠ -2 := by simpa using hp.1
    have e : outC ids pw c = ⟨c.at_, c.n, ids.getD (pk c.text) 0⟩ := by unfold outC; rw [if_neg h1, if_neg h2]
    have f := ids_facts hi hl (pk_spec c.text).1
    simp only [List.map_cons]
    rw [e]
    show applyC id ver T (c.at_ + c.n) (out ++ sl T a c.at_ ++ run (pk c.text : Int).toNat ver _) (r.map modC) = applyC (lnL L) ver T (c.at_ + c.n) (out ++ sl T a c.at_ ++ run (lnL L (ids.getD (pk c.text) 0)).toNat ver _) (r.map (outC ids pw))
    rw [f.2.2.1, applyC_mod (pw := pw) hi hl ver T r _ _ hu.2 hp.2]
    rfl

theorem codeF_zero {cs : List Chg} (h : codeF cs = 0) : unkF cs = false ∧ powF cs = false := by
  unfold codeF at h
  cases hu : unkF cs with
  | true => rw [hu] at h; simp at h
  | false =>
    cases hv : powF cs with
    | true => rw [hu, hv] at h; simp at h
    | false => exact ⟨rfl, rfl⟩

/-- Texts that a patch may have are short. -/
theorem outC_nine {ids : List Int} {pw : Int} {L : List Ent} (hi : TextsOk L ids) (hl : ids.length = 10) (hp : isKnown L pw ∧ pw ≠ 0 ∧ (entAt L pw).even = false) (cs : List Chg) : ∀ c ∈ cs.map (outC ids pw), isKnown L c.text → (entAt L c.text).even = true → lnL L c.text ≤ 9 := by
  intro c hc hk he
  obtain ⟨x, _, rfl⟩ := List.mem_map.1 hc
  unfold outC at *
  by_cases h1 : x.text = -1
  · rw [if_pos h1] at hk; unfold isKnown at hk; simp only at hk; omega
  · by_cases h2 : x.text = -2
    · rw [if_neg h1, if_pos h2] at he; rw [hp.2.2] at he; cases he
    · rw [if_neg h1, if_neg h2]
      have f := ids_facts hi hl (pk_spec x.text).1
      have := (pk_spec x.text).1
      show lnL L (ids.getD (pk x.text) 0) ≤ 9
      rw [f.2.2.1]
      omega

theorem sumT_le9 (ln : Int → Int) : ∀ (cs : List Chg), (∀ c ∈ cs, ln c.text ≤ 9) → sumT ln cs ≤ 9 * cs.length
  | [], h => by simp [sumT]
  | c :: r, h => by
    have := sumT_le9 ln r (fun x hx => h x (by simp [hx]))
    have := h c (by simp)
    simp only [sumT, List.length_cons]
    omega

theorem ofB_small {L : List Ent} (hO : SOk L) : ∀ (out : List (List Chg)) (i : Int) (T : List Lt), (∀ cs ∈ out, ∀ c ∈ cs, isKnown L c.text → (entAt L c.text).even = true → lnL L c.text ≤ 9) → T.length + 9 * tot out ≤ 900000 → ofB L i T out
  | [], i, T, h, hs => by show (T.length : Int) ≤ _; simp only [tot] at hs; omega
  | cs :: r, i, T, h, hs => by
    simp only [tot] at hs
    refine ⟨by omega, fun he => ?_⟩
    obtain ⟨hkn, hfm⟩ := patchErr_zero he
    have hln : ∀ c ∈ cs, 0 ≤ lnL L c.text := fun c hc => (hO.at _ (hkn c hc).1).1.len0
    have hle := applyC_len_eq (ver := i + 1) hfm hln
    have h9 : sumT (lnL L) cs ≤ 9 * cs.length := sumT_le9 (lnL L) cs (fun c hc => h cs (by simp) c hc (hkn c hc).1 (hkn c hc).2)
    have hn := sumN_nn (fun c hc => (formed_nn cs _ hfm c hc).1)
    exact ofB_small hO r (i + 1) _ (fun x hx => h x (by simp [hx])) (by omega)

/-- One patch, by the law's own reckoning. -/
theorem row_step {ids : List Int} {pw : Int} {L : List Ent} (hi : TextsOk L ids) (hl : ids.length = 10) (hp : isKnown L pw ∧ pw ≠ 0 ∧ (entAt L pw).even = false) (hO : SOk L) {i : Int} {T : List Lt} {R : Int × List Lt} {cs : List Chg} {r : List (List Chg)} (h : ofR L i T (cs.map (outC ids pw) :: r) = R) (hT : LOk T) (hs : T.length + 9 * cs.length ≤ 840) :
    (codeF cs ≠ 0 → R.1 = codeF cs) ∧ (codeF cs = 0 → formedFrom T.length (-1) (cs.map modC) = false → R.1 = 4) ∧
    (codeF cs = 0 → formedFrom T.length (-1) (cs.map modC) = true → applyC id (i + 1) T 0 [] (cs.map modC) = applyC (lnL L) (i + 1) T 0 [] (cs.map (outC ids pw)) ∧ (applyC (lnL L) (i + 1) T 0 [] (cs.map (outC ids pw))).length ≤ T.length + 9 * cs.length ∧ LOk (applyC (lnL L) (i + 1) T 0 [] (cs.map (outC ids pw))) ∧ ofR L (i + 1) (applyC (lnL L) (i + 1) T 0 [] (cs.map (outC ids pw))) r = R) := by
  have he := patchErr_law hi hl hp T.length cs
  unfold ofR at h
  refine ⟨fun hc => ?_, fun hc hf => ?_, fun hc hf => ?_⟩
  · rw [if_neg hc] at he
    rw [he, if_pos hc] at h
    rw [← h]
  · rw [if_pos hc, hf] at he
    rw [he] at h
    rw [← h]; rfl
  · rw [if_pos hc, hf] at he
    have he' : patchErr L T.length (cs.map (outC ids pw)) = 0 := he
    rw [if_neg (by simp [he'])] at h
    obtain ⟨hkn, hfm⟩ := patchErr_zero he'
    obtain ⟨hu, hv⟩ := codeF_zero hc
    have hln : ∀ c ∈ cs.map (outC ids pw), 0 ≤ lnL L c.text := fun c hc => (hO.at _ (hkn c hc).1).1.len0
    have hle := applyC_len_eq (ver := i + 1) hfm hln
    have h9 := sumT_le9 (lnL L) (cs.map (outC ids pw)) (fun c hc => outC_nine hi hl hp cs c hc (hkn c hc).1 (hkn c hc).2)
    have hn := sumN_nn (fun c hc => (formed_nn _ _ hfm c hc).1)
    rw [List.length_map] at h9
    have hlen : (applyC (lnL L) (i + 1) T 0 [] (cs.map (outC ids pw))).length ≤ T.length + 9 * cs.length := by omega
    exact ⟨applyC_mod hi hl _ T cs 0 [] hu hv, hlen, applyC_lok hT _ 0 [] (fun l hl => by simp at hl) hln (by omega), h⟩

theorem tot_map (f : Chg → Chg) : ∀ (pss : List (List Chg)), tot (pss.map fun cs => cs.map f) = tot pss
  | [] => rfl
  | cs :: r => by simp only [List.map_cons, tot, List.length_map, tot_map f r]

/-- Is this where the law stands after some patches? -/
def RSt (L : List Ent) (R : Int × List Lt) (OUT : List (List Chg)) (k : Nat) (b : Int) (T : List Lt) : Prop :=
  (b = 0 ∧ ofR L k T (OUT.drop k) = R ∧ T.length + 9 * tot (OUT.drop k) ≤ 840) ∨ (b ≠ 0 ∧ R.1 = b)

structure BRel (w wr : World) (L : List Ent) (R : Int × List Lt) (OUT : List (List Chg)) (k : Nat) (b : Int) (t o : Value) (T : List Lt) : Prop where
  frame : Fr0 w wr
  lt : LOwn w wr t T
  outs : Outs w wr o (OUT.take k)
  lok : LOk T
  small : T.length ≤ 840
  st : RSt L R OUT k b T

end Go.Proofs.Ytbokcmkbnkncoaa

/- A region that draws its order, shown by an invariant: what holds of the slots and the world once a set of operations is done. No program. -/
import Derived.Test.YtclpndigmidjkaaGreatQa
import Derived.Orders
set_option linter.unusedSimpArgs false
set_option linter.unusedVariables false
namespace Go.Proofs.YtclpndigmidjkaaGreat
open Go.RowKit

/-- Slots of a frame, written. -/
def putsF (a : Act) (slots : List Nat) (vals : Nat → Value) : Act := slots.foldl (fun a s => a.put (some s) (vals s)) a

def updV (vals : Nat → Value) (s : Nat) (v : Value) : Nat → Value := fun k => if k = s then v else vals k

theorem updV_same (vals : Nat → Value) (s : Nat) (v : Value) : updV vals s v s = v := if_pos rfl
theorem updV_other (vals : Nat → Value) {s k : Nat} (v : Value) (h : k ≠ s) : updV vals s v k = vals k := if_neg h

theorem putsF_tmps : ∀ (slots : List Nat) (a : Act) (vals : Nat → Value), (putsF a slots vals).defers = a.defers ∧ (putsF a slots vals).tmps.size = a.tmps.size ∧ ∀ k, (putsF a slots vals).tmps[k]? = if k ∈ slots ∧ k < a.tmps.size then some (vals k) else a.tmps[k]?
  | [], a, vals => ⟨rfl, rfl, fun k => by simp [putsF]⟩
  | s :: r, a, vals => by
    obtain ⟨h1, h2, h3⟩ := putsF_tmps r (a.put (some s) (vals s)) vals
    have e : putsF a (s :: r) vals = putsF (a.put (some s) (vals s)) r vals := rfl
    have hs : (a.put (some s) (vals s)).tmps.size = a.tmps.size := by simp [Act.put]
    refine ⟨by rw [e, h1]; rfl, by rw [e, h2, hs], fun k => ?_⟩
    rw [e, h3 k, hs]
    by_cases hk : k ∈ r ∧ k < a.tmps.size
    · rw [if_pos hk, if_pos ⟨by simp [hk.1], hk.2⟩]
    · rw [if_neg hk]
      simp only [Act.put, Array.getElem?_setIfInBounds]
      by_cases hks : s = k
      · subst hks
        rw [if_pos rfl]
        by_cases hlt : s < a.tmps.size
        · rw [if_pos hlt, if_pos ⟨by simp, hlt⟩]
        · rw [if_neg hlt, if_neg (fun h => hlt h.2)]
          exact (Array.getElem?_eq_none (by omega)).symm
      · rw [if_neg hks, if_neg]
        rintro ⟨h4, h5⟩
        rcases List.mem_cons.1 h4 with h4 | h4
        · exact hks h4.symm
        · exact hk ⟨h4, h5⟩

theorem act_ext {a b : Act} (h1 : a.defers = b.defers) (h2 : ∀ k : Nat, a.tmps[k]? = b.tmps[k]?) : a = b := by
  obtain ⟨t1, d1⟩ := a
  obtain ⟨t2, d2⟩ := b
  dsimp only at h1 h2
  subst h1
  congr 1
  exact Array.ext_getElem? h2

theorem eval_puts {a : Act} {slots : List Nat} (vals : Nat → Value) {s : Nat} (h : s ∈ slots) (hs : s < a.tmps.size) : (putsF a slots vals).eval (.tmp s) = vals s := by
  have := (putsF_tmps slots a vals).2.2 s
  rw [if_pos ⟨h, hs⟩] at this
  unfold Act.eval
  simp [Array.getD_eq_getD_getElem?, this]
theorem eval_puts_not {a : Act} {slots : List Nat} (vals : Nat → Value) {s : Nat} (h : s ∉ slots) : (putsF a slots vals).eval (.tmp s) = a.eval (.tmp s) := by
  have := (putsF_tmps slots a vals).2.2 s
  rw [if_neg (fun h' => h h'.1)] at this
  unfold Act.eval
  simp [Array.getD_eq_getD_getElem?, this]
theorem puts_put {a : Act} {slots : List Nat} (vals : Nat → Value) {s : Nat} (v : Value) (h : s ∈ slots) : (putsF a slots vals).put (some s) v = putsF a slots (updV vals s v) := by
  obtain ⟨h1, h2, h3⟩ := putsF_tmps slots a vals
  obtain ⟨g1, g2, g3⟩ := putsF_tmps slots a (updV vals s v)
  refine act_ext (by rw [g1]; exact h1) (fun k => ?_)
  rw [g3 k]
  show ((putsF a slots vals).tmps.setIfInBounds s v)[k]? = _
  rw [Array.getElem?_setIfInBounds, h2, h3 k]
  by_cases hk : s = k
  · subst hk
    rw [if_pos rfl]
    by_cases hlt : s < a.tmps.size
    · rw [if_pos hlt, if_pos ⟨h, hlt⟩, updV_same]
    · rw [if_neg hlt, if_neg (fun h => hlt h.2)]
      exact (Array.getElem?_eq_none (by omega)).symm
  · rw [if_neg hk, updV_other _ _ (fun e => hk e.symm)]
theorem puts_self (a : Act) (slots : List Nat) : putsF a slots (fun s => a.eval (.tmp s)) = a := by
  obtain ⟨h1, h2, h3⟩ := putsF_tmps slots a (fun s => a.eval (.tmp s))
  refine act_ext h1 (fun k => ?_)
  rw [h3 k]
  split
  · next h => simp [Act.eval, Array.getD_eq_getD_getElem?, Array.getElem?_eq_getElem h.2]
  · rfl

/-- The operations bear no guard, and wait for earlier ones only. -/
def backB (l : List Oper) : Bool := (List.range l.length).all fun i => match l[i]? with | some o => o.guard.isNone && o.after.all fun e => !Region.binds .any e || decide (e.on < i) | none => true

section
variable {P : Program} {Q : Exit → Act → World → Prop}

theorem ready_spec {l : List Oper} {listed : Array Bool} {i : Nat} (h : i ∈ Region.ready .any l.toArray listed) : ∃ o, l[i]? = some o ∧ i < l.length ∧ listed.getD i true = false ∧ ∀ e ∈ o.after, Region.binds .any e = true → listed.getD e.on false = true := by
  unfold Region.ready at h
  obtain ⟨h1, h2⟩ := List.mem_filter.1 h
  have hi : i < l.length := by simpa using h1
  rw [Bool.and_eq_true] at h2
  have ho : l.toArray[i]? = some l[i] := by simp [hi]
  rw [ho] at h2
  refine ⟨l[i], List.getElem?_eq_getElem hi, hi, by simpa using h2.1, fun e he hb => ?_⟩
  have h3 := h2.2
  simp only [Option.map_some, Option.getD_some] at h3
  have h4 := (Array.all_eq_true'.1 h3) e he
  rw [hb] at h4
  simpa using h4

theorem none_ready {l : List Oper} {listed : Array Bool} (hb : backB l = true) (hs : listed.size = l.length) (h : Region.ready .any l.toArray listed = []) : ∀ i, i < l.length → listed.getD i false = true := by
  intro i
  induction i using Nat.strongRecOn with
  | ind i ih =>
    intro hi
    refine Classical.byContradiction fun hn => ?_
    have hmem : i ∈ Region.ready .any l.toArray listed := by
      unfold Region.ready
      refine List.mem_filter.2 ⟨by simpa using hi, ?_⟩
      have ho : l.toArray[i]? = some l[i] := by simp [hi]
      rw [ho, Bool.and_eq_true]
      have hlt : i < listed.size := by omega
      constructor
      · have : listed.getD i false = false := by simpa using hn
        simp only [Array.getD_eq_getD_getElem?, Array.getElem?_eq_getElem hlt, Option.getD_some] at this ⊢
        rw [this]; rfl
      · simp only [Option.map_some, Option.getD_some]
        refine Array.all_eq_true'.2 fun e he => ?_
        have hb2 := List.all_eq_true.1 hb i (by simpa using hi)
        rw [List.getElem?_eq_getElem hi] at hb2
        dsimp only at hb2
        rw [Bool.and_eq_true] at hb2
        have hlt2 := (Array.all_eq_true'.1 hb2.2) e he
        cases hbd : Region.binds .any e with
        | false => simp
        | true =>
          rw [hbd] at hlt2
          have hlt3 : e.on < i := by simpa using hlt2
          rw [ih e.on hlt3 (by omega)]
          simp
    rw [h] at hmem
    cases hmem

/-- The law: an invariant over what has been done. -/
theorem wpAny_inv {l : List Oper} (hb : backB l = true) (a0 : Act) (slots : List Nat) (G : (Nat → Bool) → (Nat → Value) → World → Prop)
    (hstep : ∀ (i : Nat) (o : Oper), l[i]? = some o → ∀ (d : Nat → Bool) (vals : Nat → Value) (w : World), d i = false → (∀ e ∈ o.after, Region.binds .any e = true → d e.on = true) → G d vals w →
      Oper.wp P o (putsF a0 slots vals) w (fun a' w' => ∃ vals', a' = putsF a0 slots vals' ∧ G (fun j => decide (j = i) || d j) vals' w') Q)
    (hend : ∀ (d : Nat → Bool) (vals : Nat → Value) (w : World), (∀ i, i < l.length → d i = true) → G d vals w → Q .normal (putsF a0 slots vals) w) :
    ∀ (fuel : Nat) (listed : Array Bool) (vals : Nat → Value) (w : World), listed.size = l.length → (Region.ready .any l.toArray listed = [] ∨ (∃ n, n + fuel = l.length ∧ n = (List.range l.length).countP (fun i => listed.getD i false))) → G (fun i => listed.getD i false) vals w → wpAny P .any l.toArray Q fuel listed (putsF a0 slots vals) w := by
  intro fuel
  induction fuel with
  | zero =>
    intro listed vals w hs hc hG
    have hall : ∀ i, i < l.length → listed.getD i false = true := by
      rcases hc with hc | ⟨n, h1, h2⟩
      · exact none_ready hb hs hc
      · intro i hi
        have hcount : (List.range l.length).countP (fun i => listed.getD i false) = (List.range l.length).length := by rw [List.length_range]; omega
        exact List.countP_eq_length.1 hcount i (by simpa using hi)
    refine ⟨?_, hend _ vals w hall hG⟩
    cases hr : Region.ready .any l.toArray listed with
    | nil => rfl
    | cons i r =>
      obtain ⟨o, h1, h2, h3, h4⟩ := ready_spec (l := l) (listed := listed) (i := i) (by rw [hr]; simp)
      have := hall i h2
      have hlt : i < listed.size := by omega
      simp only [Array.getD_eq_getD_getElem?, Array.getElem?_eq_getElem hlt, Option.getD_some] at this h3
      rw [h3] at this
      cases this
  | succ fuel ih =>
    intro listed vals w hs hc hG
    refine ⟨fun hr => hend _ vals w (none_ready hb hs hr) hG, fun i hi => ?_⟩
    obtain ⟨o, h1, h2, h3, h4⟩ := ready_spec hi
    have hlt : i < listed.size := by omega
    have hd : listed.getD i false = false := by
      simp only [Array.getD_eq_getD_getElem?, Array.getElem?_eq_getElem hlt, Option.getD_some] at h3 ⊢
      exact h3
    have hst := hstep i o h1 _ vals w hd h4 hG
    unfold wpOp
    have ho : l.toArray[i]? = some o := by simpa using h1
    rw [ho]
    dsimp only
    have hb2 := List.all_eq_true.1 hb i (by simpa using h2)
    rw [h1] at hb2
    dsimp only at hb2
    rw [Bool.and_eq_true] at hb2
    have hg : o.guard = none := by simpa using hb2.1
    rw [if_pos (by simp [Region.wanted, hg])]
    refine .inl (Oper.wp_mono (fun a' w' h => ?_) hst)
    obtain ⟨vals', rfl, hG'⟩ := h
    have hfun : (fun j => decide (j = i) || listed.getD j false) = fun j => (listed.setIfInBounds i true).getD j false := by
      funext j
      simp only [Array.getD_eq_getD_getElem?, Array.getElem?_setIfInBounds]
      by_cases hj : i = j
      · subst hj
        rw [if_pos rfl, if_pos hlt]
        simp
      · rw [if_neg hj]
        have : decide (j = i) = false := decide_eq_false (fun e => hj e.symm)
        rw [this, Bool.false_or]
    rw [hfun] at hG'
    refine ih _ _ _ (by simpa using hs) ?_ hG'
    rcases hc with hc | ⟨n, e1, e2⟩
    · rw [hc] at hi; cases hi
    · refine .inr ⟨n + 1, by omega, ?_⟩
      rw [← hfun]
      have key : ∀ (L : List Nat), L.Nodup → i ∈ L → L.countP (fun j => decide (j = i) || listed.getD j false) = L.countP (fun j => listed.getD j false) + 1 := by
        intro L
        induction L with
        | nil => intro _ h; cases h
        | cons x r ihL =>
          intro hnd hm
          have hnd2 := List.nodup_cons.1 hnd
          by_cases hx : x = i
          · subst hx
            have hr : r.countP (fun j => decide (j = x) || listed.getD j false) = r.countP (fun j => listed.getD j false) := by
              refine List.countP_congr fun j hj => ?_
              have : j ≠ x := fun e => hnd2.1 (by rw [← e]; exact hj)
              simp [this]
            rw [List.countP_cons, List.countP_cons, hr, hd]
            simp
          · have hm2 : i ∈ r := by
              rcases List.mem_cons.1 hm with h | h
              · exact absurd h.symm hx
              · exact h
            rw [List.countP_cons, List.countP_cons, ihL hnd2.2 hm2]
            have : decide (x = i) = false := decide_eq_false hx
            rw [this, Bool.false_or]
            omega
      rw [key _ List.nodup_range (by simpa using h2), ← e2]

theorem region_inv {id : Nat} {l : List Oper} {a0 : Act} {w : World} (hm : P.follows .mixedOrders = true) (hb : backB l = true) (slots : List Nat) (G : (Nat → Bool) → (Nat → Value) → World → Prop) (h0 : G (fun _ => false) (fun s => a0.eval (.tmp s)) w.drew)
    (hstep : ∀ (i : Nat) (o : Oper), l[i]? = some o → ∀ (d : Nat → Bool) (vals : Nat → Value) (w : World), d i = false → (∀ e ∈ o.after, Region.binds .any e = true → d e.on = true) → G d vals w →
      Oper.wp P o (putsF a0 slots vals) w (fun a' w' => ∃ vals', a' = putsF a0 slots vals' ∧ G (fun j => decide (j = i) || d j) vals' w') Q)
    (hend : ∀ (d : Nat → Bool) (vals : Nat → Value) (w : World), (∀ i, i < l.length → d i = true) → G d vals w → Q .normal (putsF a0 slots vals) w) :
    (Code.region id l.toArray true).wp P Q a0 w := by
  refine wp_region_any hm ?_
  have h := wpAny_inv (P := P) (Q := Q) hb a0 slots G hstep hend l.length (Array.replicate l.length false) (fun s => a0.eval (.tmp s)) w.drew (by simp) ?_ ?_
  · rw [puts_self] at h
    simpa using h
  · refine .inr ⟨0, by omega, ?_⟩
    refine (List.countP_eq_zero.2 ?_).symm
    intro i hi
    have hi2 : i < l.length := by simpa using hi
    simp [Array.getD_eq_getD_getElem?, hi2]
  · have : (fun i => (Array.replicate l.length false).getD i false) = fun _ => false := by
      funext i
      by_cases hi : i < l.length
      · simp [Array.getD_eq_getD_getElem?, hi]
      · simp [Array.getD_eq_getD_getElem?, hi]
    rw [this]
    exact h0

def AllI {α : Type} (p : Nat → α → Prop) : List α → Nat → Prop
  | [], _ => True
  | o :: r, k => p k o ∧ AllI p r (k + 1)
theorem all_idx {α : Type} {p : Nat → α → Prop} : ∀ (l : List α) (k : Nat), AllI p l k → ∀ (i : Nat) (o : α), l[i]? = some o → p (k + i) o
  | [], k, _, i, o, h => by simp at h
  | x :: r, k, h, 0, o, ho => by simp at ho; subst ho; exact h.1
  | x :: r, k, h, i + 1, o, ho => by
    have := all_idx r (k + 1) h.2 i o (by simpa using ho)
    rw [show k + (i + 1) = k + 1 + i by omega]
    exact this
theorem all_idx0 {α : Type} {p : Nat → α → Prop} (l : List α) (h : AllI p l 0) (i : Nat) (o : α) (ho : l[i]? = some o) : p i o := by
  have := all_idx l 0 h i o ho
  rwa [Nat.zero_add] at this

/-- An operation that yields. -/
theorem wp_yields {o : Oper} {a : Act} {w w' : World} {v : Value} {K : Act → World → Prop} (h : (execOp a.eval o).run P w = .ok (.value v) w') (hK : K (a.put o.dst v) w') : Oper.wp P o a w K Q := by
  unfold Oper.wp
  rw [h]
  exact hK
theorem wp_skips {o : Oper} {a : Act} {w w' : World} {K : Act → World → Prop} (h : (execOp a.eval o).run P w = .ok .skip w') (hK : K (a.put o.dst undef) w') : Oper.wp P o a w K Q := by
  unfold Oper.wp
  rw [h]
  exact hK

end

end Go.Proofs.YtclpndigmidjkaaGreat

/- Plain words: pieces of a text and their letters; reading pieces from the left. No program. -/
import Derived.Test.YtclpndigmidjkaaGreatQCm37
set_option linter.unusedSimpArgs false
set_option linter.unusedVariables false
namespace Go.Proofs.YtclpndigmidjkaaGreat
open Go.RowKit

/-- A piece as it lies in memory. -/
structure Pm where
  text : Int
  from_ : Int
  n : Int

def Pm.vals (x : Pm) : List Value := [.int .i64 x.text, .int .i64 x.from_, .int .i64 x.n]

/-- A run of kept letters. -/
def runC (f : Int) (n : Nat) : List (Int × Int) := (List.range n).map fun (i : Nat) => (63, f + (i : Int))

theorem runC_len (f : Int) (n : Nat) : (runC f n).length = n := by simp [runC]
theorem runC_sub (f : Int) (n u m : Nat) (h : u + m ≤ n) : ((runC f n).drop u).take m = runC (f + (u : Int)) m := by
  apply List.ext_getElem
  · rw [List.length_take, List.length_drop, runC_len, runC_len]; omega
  · intro i h1 h2
    simp [runC]
    omega

/-- The letters of a piece. -/
def clP (tx : Int → List Int) (x : Pm) : List (Int × Int) := if x.text = 0 then runC x.from_ x.n.toNat else (cutL (tx x.text) x.from_ x.n).map embC

def flatP (tx : Int → List Int) (xs : List Pm) : List (Int × Int) := xs.flatMap (clP tx)

theorem flatP_cons (tx : Int → List Int) (x : Pm) (r : List Pm) : flatP tx (x :: r) = clP tx x ++ flatP tx r := rfl
theorem flatP_append (tx : Int → List Int) (a b : List Pm) : flatP tx (a ++ b) = flatP tx a ++ flatP tx b := by simp [flatP]

/-- A piece of a store. -/
structure POk (MT : Nat) (L : List Ent) (x : Pm) : Prop where
  f0 : 0 ≤ x.from_
  n0 : 0 ≤ x.n
  up : x.from_ + x.n ≤ 1152921504606846976
  text : x.text ≠ 0 → ∃ t d, BalZ L x.text t d ∧ x.from_ + x.n ≤ t.length ∧ t.length ≤ MT

theorem POk.len {MT : Nat} {L : List Ent} {x : Pm} (h : POk MT L x) : ((clP (txt L) x).length : Int) = x.n := by
  unfold clP
  have := h.f0
  have := h.n0
  by_cases h0 : x.text = 0
  · rw [if_pos h0, runC_len]; omega
  · rw [if_neg h0, List.length_map]
    obtain ⟨t, d, hb, hl, _⟩ := h.text h0
    rw [hb.text]
    exact cut_len h.f0 h.n0 hl

/-- A part of a piece. -/
theorem POk.sub {MT : Nat} {L : List Ent} {x : Pm} (h : POk MT L x) {u m : Int} (hu : 0 ≤ u) (hm : 0 ≤ m) (hl : u + m ≤ x.n) : POk MT L ⟨x.text, x.from_ + u, m⟩ ∧ clP (txt L) ⟨x.text, x.from_ + u, m⟩ = ((clP (txt L) x).drop u.toNat).take m.toNat := by
  have f0 := h.f0
  have n0 := h.n0
  have up := h.up
  refine ⟨⟨by show 0 ≤ x.from_ + u; omega, hm, by show x.from_ + u + m ≤ _; omega, fun h0 => ?_⟩, ?_⟩
  · obtain ⟨t, d, hb, hl2, hl3⟩ := h.text h0
    exact ⟨t, d, hb, by show x.from_ + u + m ≤ _; omega, hl3⟩
  · unfold clP
    by_cases h0 : x.text = 0
    · rw [if_pos h0, if_pos (show (⟨x.text, x.from_ + u, m⟩ : Pm).text = 0 from h0), runC_sub _ _ _ _ (by omega)]
      show runC (x.from_ + u) m.toNat = _
      congr 1
      omega
    · rw [if_neg h0, if_neg (show ¬ (⟨x.text, x.from_ + u, m⟩ : Pm).text = 0 from h0), ← List.map_drop, ← List.map_take]
      congr 1
      show cutL (txt L x.text) (x.from_ + u) m = _
      unfold cutL
      rw [List.drop_take, List.take_take, List.drop_drop]
      congr 1
      · omega
      · congr 1; omega

/-- What has not been read. -/
def restP (L : List Ent) (xs : List Pm) (u : Int) : List (Int × Int) := (flatP (txt L) xs).drop u.toNat

theorem restP_nil (L : List Ent) (u : Int) : restP L [] u = [] := by simp [restP, flatP]
theorem restP_zero (L : List Ent) (xs : List Pm) : restP L xs 0 = flatP (txt L) xs := by simp [restP]

/-- One step of the reader: m letters of the first piece. -/
theorem restP_step {MT : Nat} {L : List Ent} {x : Pm} {r : List Pm} (h : POk MT L x) {u m : Int} (hu : 0 ≤ u) (hm : 0 ≤ m) (hl : u + m ≤ x.n) :
    (restP L (x :: r) u).take m.toNat = clP (txt L) ⟨x.text, x.from_ + u, m⟩ ∧ (restP L (x :: r) u).drop m.toNat = restP L (x :: r) (u + m) ∧ (u + m = x.n → restP L (x :: r) (u + m) = restP L r 0) := by
  have hlen := h.len
  refine ⟨?_, ?_, ?_⟩
  · unfold restP
    rw [flatP_cons, List.drop_append_of_le_length (by omega), List.take_append_of_le_length (by rw [List.length_drop]; omega), (h.sub hu hm hl).2]
  · unfold restP
    rw [List.drop_drop, show u.toNat + m.toNat = (u + m).toNat by omega]
  · intro he
    rw [restP_zero]
    unfold restP
    rw [flatP_cons, List.drop_append_of_le_length (by omega), List.drop_of_length_le (by omega), List.nil_append]

theorem take_split {α : Type} (l : List α) (a b : Nat) (h : a ≤ b) : l.take b = l.take a ++ (l.drop a).take (b - a) := by
  conv => lhs; rw [show b = a + (b - a) by omega]
  rw [List.take_add]

/-- The reader's state while it reads up tgt an offset: from (ys0, xs0, u0, at0). -/
structure RdS (MT : Nat) (L : List Ent) (G1 G2 : List (Int × Int)) (C : Int) (K : Nat) (tgt : Int) (ys xs : List Pm) (u at_ : Int) : Prop where
  g1 : flatP (txt L) ys ++ (restP L xs u).take (tgt - at_).toNat = G1
  g2 : (restP L xs u).drop (tgt - at_).toNat = G2
  c : at_ + ((restP L xs u).length : Int) = C
  k : ys.length + xs.length + (if at_ < tgt then 1 else 0) ≤ K
  oy : ∀ y ∈ ys, POk MT L y ∧ 0 < y.n
  ox : ∀ x ∈ xs, POk MT L x
  u0 : 0 ≤ u
  a0 : 0 ≤ at_
  ux : ∀ x r, xs = x :: r → u < x.n ∨ (u = 0 ∧ x.n = 0)

theorem RdS.next {MT : Nat} {L : List Ent} {G1 G2 : List (Int × Int)} {C : Int} {K : Nat} {tgt : Int} {ys : List Pm} {x : Pm} {r : List Pm} {u at_ m : Int} (h : RdS MT L G1 G2 C K tgt ys (x :: r) u at_) (hlt : at_ < tgt) (hm : m = min (x.n - u) (tgt - at_)) :
    (0 < m → RdS MT L G1 G2 C K tgt (ys ++ [⟨x.text, x.from_ + u, m⟩]) (if u + m = x.n then r else x :: r) (if u + m = x.n then 0 else u + m) (at_ + m)) ∧
    (m = 0 → RdS MT L G1 G2 C K tgt ys r 0 at_) := by
  have hx := h.ox x (by simp)
  have hu := h.u0
  have hux := h.ux x r rfl
  have hn0 := hx.n0
  have hm0 : 0 ≤ m := by omega
  have hml : u + m ≤ x.n := by omega
  obtain ⟨s1, s2, s3⟩ := restP_step (r := r) hx hu hm0 hml
  have hsub := hx.sub hu hm0 hml
  have hmt : m.toNat ≤ (tgt - at_).toNat := by omega
  have hg1 := h.g1
  have hg2 := h.g2
  have hc := h.c
  have hk := h.k
  rw [if_pos hlt] at hk
  have hrl : ((restP L (x :: r) u).length : Int) = m + ((restP L (x :: r) (u + m)).length : Int) := by
    rw [← s2, List.length_drop]
    have q1 := congrArg List.length s1
    rw [List.length_take] at q1
    have q2 : ((clP (txt L) ⟨x.text, x.from_ + u, m⟩).length : Int) = m := hsub.1.len
    omega
  constructor
  · intro hpos
    have e1 : restP L (if u + m = x.n then r else x :: r) (if u + m = x.n then 0 else u + m) = (restP L (x :: r) u).drop m.toNat := by
      by_cases he : u + m = x.n
      · rw [if_pos he, if_pos he, s2, s3 he]
      · rw [if_neg he, if_neg he, s2]
    refine ⟨?_, ?_, ?_, ?_, ?_, ?_, ?_, ?_, ?_⟩
    · rw [e1, flatP_append, ← hg1, take_split (restP L (x :: r) u) m.toNat (tgt - at_).toNat hmt, s1, List.append_assoc]
      congr 1
      show clP (txt L) _ ++ [] ++ _ = _
      rw [List.append_nil]
      congr 2
      omega
    · rw [e1, List.drop_drop, ← hg2]
      congr 1
      omega
    · rw [e1, s2]
      omega
    · rw [List.length_append, List.length_singleton]
      by_cases he : u + m = x.n
      · rw [if_pos he]
        simp only [List.length_cons] at hk
        split <;> omega
      · rw [if_neg he, if_neg (by omega)]
        omega
    · intro y hy
      rcases List.mem_append.1 hy with hy | hy
      · exact h.oy y hy
      · simp only [List.mem_singleton] at hy
        subst hy
        exact ⟨hsub.1, hpos⟩
    · intro y hy
      split at hy
      · exact h.ox y (by simp [hy])
      · exact h.ox y hy
    · split <;> omega
    · have := h.a0; omega
    · intro y s hy
      by_cases he : u + m = x.n
      · rw [if_pos he] at hy ⊢
        have := (h.ox y (by rw [hy]; simp)).n0
        omega
      · rw [if_neg he] at hy ⊢
        cases hy
        omega
  · intro hz
    have e0 : x.n = 0 ∧ u = 0 := by omega
    have e1 : restP L (x :: r) u = restP L r 0 := by
      have := s3 (by omega)
      rw [show u + m = u by omega] at this
      exact this
    rw [e1] at hg1 hg2 hc
    refine ⟨hg1, hg2, hc, ?_, h.oy, fun y hy => h.ox y (by simp [hy]), by omega, h.a0, fun y s hy => ?_⟩
    · simp only [List.length_cons] at hk
      rw [if_pos hlt]
      omega
    · have := (h.ox y (by rw [hy]; simp)).n0
      omega

/-- At the end. -/
theorem RdS.done {MT : Nat} {L : List Ent} {G1 G2 : List (Int × Int)} {C : Int} {K : Nat} {tgt : Int} {ys xs : List Pm} {u at_ : Int} (h : RdS MT L G1 G2 C K tgt ys xs u at_) (hd : xs = [] ∨ tgt ≤ at_) : flatP (txt L) ys = G1 ∧ restP L xs u = G2 := by
  have hg1 := h.g1
  have hg2 := h.g2
  rcases hd with rfl | hd
  · rw [restP_nil] at hg1 hg2
    simp at hg1 hg2
    exact ⟨hg1, by rw [restP_nil]; exact hg2.symm⟩
  · rw [show (tgt - at_).toNat = 0 by omega] at hg1 hg2
    simp at hg1 hg2
    exact ⟨hg1, hg2⟩

end Go.Proofs.YtclpndigmidjkaaGreat

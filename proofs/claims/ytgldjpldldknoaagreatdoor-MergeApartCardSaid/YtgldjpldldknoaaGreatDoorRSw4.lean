/- Run levels in place (plain). -/
import Derived.Test.YtgldjpldldknoaaGreatDoorRSw3
set_option linter.unusedSimpArgs false
set_option linter.unusedVariables false
namespace Go.Proofs.YtgldjpldldknoaaGreatDoor
open Go.RowKit
def rn1 (L : List Ent) (p : Int × Nat) : List Ent × Int := if 1 < p.2 then (addL L (powEnt L p.1 p.2), addI L (powEnt L p.1 p.2)) else (L, p.1)
theorem rnL_cons (L : List Ent) (p : Int × Nat) (g : List (Int × Nat)) : rnL L (p :: g) = ((rnL (rn1 L p).1 g).1, (rn1 L p).2 :: (rnL (rn1 L p).1 g).2) := by
 obtain ⟨x, k⟩ := p
 rw [rnL]
 unfold rn1
 dsimp only
 split <;> rfl
theorem rnL_snoc (p : Int × Nat) : ∀ (g : List (Int × Nat)) (L : List Ent), rnL L (g ++ [p]) = ((rn1 (rnL L g).1 p).1, (rnL L g).2 ++ [(rn1 (rnL L g).1 p).2])
 | [], L => by
  show rnL L (p :: []) = _
  rw [rnL_cons]
  rfl
 | q :: g, L => by
  show rnL L (q :: (g ++ [p])) = _
  rw [rnL_cons, rnL_snoc p g, rnL_cons L q g]
  rfl
theorem rn1_ok {L : List Ent} (hS : SOk L) (hD : DOk L) (hU : Uq L) {p : Int × Nat} (hk : isKnown L p.1) (h0 : p.1 ≠ 0) (ht : (txt L p.1).length * p.2 ≤ 1152921504606846976) :
    Gu L (rn1 L p).1 1 ∧ isKnown (rn1 L p).1 (rn1 L p).2 ∧ (rn1 L p).2 ≠ 0 := by
 unfold rn1
 split
 · rename_i h
   obtain ⟨g1, g2, g3, _⟩ := pow_new hS hD hU hk h0 (by omega : 2 ≤ p.2) ht
   exact ⟨g1, g2, g3⟩
 · exact ⟨(Gu.refl hS hD hU).le (by omega), hk, h0⟩
theorem rnL_weak : ∀ (g : List (Int × Nat)) (L : List Ent), SOk L → DOk L → Uq L → (∀ p ∈ g, isKnown L p.1 ∧ p.1 ≠ 0 ∧ (txt L p.1).length * p.2 ≤ 1152921504606846976) →
    Gu L (rnL L g).1 g.length ∧ (rnL L g).2.length = g.length ∧ ∀ u ∈ (rnL L g).2, isKnown (rnL L g).1 u ∧ u ≠ 0
 | [], L, hS, hD, hU, _ => ⟨Gu.refl hS hD hU, rfl, fun u hu => by simp [rnL] at hu⟩
 | p :: g, L, hS, hD, hU, hp => by
  have h1 := hp p (by simp)
  obtain ⟨g1, g2, g3⟩ := rn1_ok hS hD hU h1.1 h1.2.1 h1.2.2
  obtain ⟨M, hM⟩ := g1.gr.ext
  obtain ⟨i1, i2, i3⟩ := rnL_weak g (rn1 L p).1 g1.gr.sok g1.gr.dok g1.uq (fun q hq => by
   obtain ⟨k1, k2, k3⟩ := hp q (by simp [hq])
   rw [hM, txt_append hD M k1]
   exact ⟨known_more k1 M, k2, k3⟩)
  rw [rnL_cons]
  obtain ⟨N, hN⟩ := i1.gr.ext
  refine ⟨g1.trans i1 (by simp only [List.length_cons]; omega), by simp [i2], fun u hu => ?_⟩
  rcases List.mem_cons.1 hu with e | hu
  · rw [e]
    refine ⟨?_, g3⟩
    show isKnown (rnL (rn1 L p).1 g).1 _
    rw [hN]
    exact known_more g2 N
  · exact i3 u hu
theorem unr_append (a b : List (Int × Nat)) : unr (a ++ b) = unr a ++ unr b := by unfold unr; rw [List.map_append, List.flatten_append]
theorem unr_one (p : Int × Nat) : unr [p] = List.replicate p.2 p.1 := by unfold unr; simp
theorem unr_take {G : List (Int × Nat)} {m : Nat} (h : m < G.length) : unr (G.take (m + 1)) = unr (G.take m) ++ List.replicate G[m].2 G[m].1 := by
 rw [List.take_succ_eq_append_getElem h, unr_append, unr_one]
theorem unr_split {G : List (Int × Nat)} {m : Nat} (h : m < G.length) : unr G = unr (G.take m) ++ (List.replicate G[m].2 G[m].1 ++ unr (G.drop (m + 1))) := by
 have e : G = G.take m ++ (G[m] :: G.drop (m + 1)) := by
  rw [← List.drop_eq_getElem_cons h, List.take_append_drop]
 have e2 : unr G = unr (G.take m ++ (G[m] :: G.drop (m + 1))) := congrArg unr e
 rw [e2, unr_append, show G[m] :: G.drop (m + 1) = [G[m]] ++ G.drop (m + 1) from rfl, unr_append, unr_one]
theorem runs_pos : ∀ {G : List (Int × Nat)}, RunsOk G → ∀ p ∈ G, 1 ≤ p.2
 | [], _, p, hp => by simp at hp
 | q :: g, h, p, hp => by
  rcases List.mem_cons.1 hp with e | hp
  · rw [e]; exact h.pos
  · exact runs_pos h.tail p hp
theorem runs_need {L : List Ent} {ids : List Int} (hkn : ∀ u ∈ ids, isKnown L u ∧ u ≠ 0) (ht : (txts L ids).length ≤ 1152921504606846976) : ∀ p ∈ rle ids, isKnown L p.1 ∧ p.1 ≠ 0 ∧ (txt L p.1).length * p.2 ≤ 1152921504606846976 := by
 intro p hp
 obtain ⟨m, hm, rfl⟩ := List.getElem_of_mem hp
 have hu := (rle_ok ids).2.1
 have hpos := runs_pos (rle_ok ids).1 _ hp
 have hs := unr_split hm
 generalize rle ids = G at *
 rw [hu] at hs
 have hmem : G[m].1 ∈ ids := by
  rw [hs]
  exact List.mem_append_right _ (List.mem_append_left _ (List.mem_replicate.2 ⟨by omega, rfl⟩))
 refine ⟨(hkn _ hmem).1, (hkn _ hmem).2, ?_⟩
 rw [hs, txts_append, txts_append, txts_replicate, List.length_append, List.length_append, reps_len] at ht
 rw [Nat.mul_comm]
 omega
structure InP (L Lm : List Ent) (ids out xs ys : List Int) (m at_ : Nat) : Prop where
 ml : m ≤ at_
 fo : xs.take m = out
 fk : ys.take m = out.map (kkey Lm)
 rest : xs.drop at_ = ids.drop at_
 restk : ys.drop at_ = (ids.map (kkey L)).drop at_
 lx : xs.length = ids.length
 ly : ys.length = ids.length
 al : at_ ≤ ids.length
 lo : out.length = m
theorem InP.start (L : List Ent) (ids : List Int) : InP L L ids [] ids (ids.map (kkey L)) 0 0 := ⟨Nat.le_refl _, rfl, rfl, rfl, rfl, rfl, by simp, Nat.zero_le _, rfl⟩
theorem getElem_of_drop {α : Type} {xs ids : List α} {a : Nat} (h : xs.drop a = ids.drop a) (hx : a < xs.length) (hi : a < ids.length) : xs[a] = ids[a] := by
 have := congrArg (fun l => l[0]?) h
 simp only [List.getElem?_drop, Nat.add_zero] at this
 rw [List.getElem?_eq_getElem hx, List.getElem?_eq_getElem hi] at this
 exact Option.some.inj this
theorem InP.step {L Lm Lm' : List Ent} {ids out xs ys : List Int} {m at_ k : Nat} {id : Int} (h : InP L Lm ids out xs ys m at_) (hD : DOk Lm) {M : List Ent} (hM : Lm' = Lm ++ M) (hD' : DOk Lm') (hkn : ∀ u ∈ out, isKnown Lm u ∧ u ≠ 0) (hk : 1 ≤ k) (hak : at_ + k ≤ ids.length) :
    InP L Lm' ids (out ++ [id]) (putR xs m [id]) (putR ys m [kkey Lm' id]) (m + 1) (at_ + k) := by
 have h1 := h.ml
 have h2 := h.lx
 have h3 := h.ly
 have hlx := putR_one_len xs id (by omega : m ≤ xs.length)
 have hly := putR_one_len ys (kkey Lm' id) (by omega : m ≤ ys.length)
 have ek : out.map (kkey Lm') = out.map (kkey Lm) := by
  subst hM
  exact kl_seq hD hD' out hkn
 refine ⟨by omega, ?_, ?_, ?_, ?_, by omega, by omega, hak, by simp [h.lo]⟩
 · have := putR_take xs [id] (j := m) (by omega)
   rw [h.fo] at this
   exact this
 · have := putR_take ys [kkey Lm' id] (j := m) (by omega)
   rw [h.fk] at this
   rw [List.map_append, ek]
   exact this
 · rw [putR_drop xs [id] (by omega) (by simp; omega)]
   have := congrArg (List.drop k) h.rest
   rw [List.drop_drop, List.drop_drop] at this
   exact this
 · rw [putR_drop ys [kkey Lm' id] (by omega) (by simp; omega)]
   have := congrArg (List.drop k) h.restk
   rw [List.drop_drop, List.drop_drop] at this
   exact this
end Go.Proofs.YtgldjpldldknoaaGreatDoor

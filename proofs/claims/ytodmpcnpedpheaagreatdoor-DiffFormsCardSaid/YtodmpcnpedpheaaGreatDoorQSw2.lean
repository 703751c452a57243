/- The store's operations over a parser; the letters of a text (plain). -/
import Derived.Test.YtodmpcnpedpheaaGreatDoorQKw5
import Derived.Test.YtodmpcnpedpheaaGreatDoorQSt9
set_option linter.unusedSimpArgs false
set_option linter.unusedVariables false
namespace Go.Proofs.YtodmpcnpedpheaaGreatDoor
open Go.RowKit

/-- What an operation leaves that makes a rule. -/
def MkQ (B : Nat) (w : World) (pp tp p mb : Nat) (most : Int) (L' : List Ent) (T : List KRow) (id : Int) (e : Ending) (w' : World) : Prop :=
  e = .returned (.tuple #[.int .i64 id, .nilIface]) ∧ Pq B w' pp tp p mb most L' T ∧ Kx B mb w w'

/-- A new letter. -/
theorem letter_new {L : List Ent} (hS : SOk L) (hD : DOk L) (hU : Uq L) (b : Int) (h0 : 0 ≤ b) (h1 : b < 256) :
    Gu L (addL L (letterEnt b)) 1 ∧ isKnown (addL L (letterEnt b)) (addI L (letterEnt b)) ∧ addI L (letterEnt b) ≠ 0 ∧ txt (addL L (letterEnt b)) (addI L (letterEnt b)) = [b] ∧ klev (addL L (letterEnt b)) (addI L (letterEnt b)) = 0 := by
  have k1 := addI_known L (letterEnt b)
  have e1 := ent_letter hD b
  have hk : (entAt (addL L (letterEnt b)) (addI L (letterEnt b))).rule.kind = 1 := by rw [e1]; rfl
  refine ⟨⟨⟨addL_ext L _, (addL_len _ _).2, hS.letter b h0 h1, hD.letter b⟩, hU.letter b h0 h1⟩, k1.1, k1.2, ?_, (kl_letter (by have := k1.1.1; have := k1.2; omega) hk).2⟩
  rw [txt_letter k1.1 k1.2 hk, e1]
  rfl

theorem pq_Letter {B : Nat} {w : World} {pp tp p mb : Nat} {most : Int} {L : List Ent} {T : List KRow} (h : Pq B w pp tp p mb most L T) (b : Int) (h0 : 0 ≤ b) (h1 : b < 256) (hm : (L.length : Int) < most) (hL : L.length < 1000000) :
    Calls Tryz.prog 27 #[.pointer (some ⟨p, 0, none⟩), .int .u8 b] w (MkQ B w pp tp p mb most (addL L (letterEnt b)) T (addI L (letterEnt b))) := by
  obtain ⟨sv, hS', s1, s2, s3⟩ := h.st
  refine (st_Letter hS' b h0 h1 hm (by omega)).mono ?_
  rintro e w' ⟨rfl, hst⟩
  obtain ⟨q1, q2⟩ := Sto.step hS' s1 s2 s3 h.base hst
  exact ⟨rfl, h.rules q1 q2 (letter_new h.sok h.dok h.uq b h0 h1).1 (by have := (addL_len L (letterEnt b)).2; omega), Ks.ofK q2⟩

theorem pq_Pair {B : Nat} {w : World} {pp tp p mb : Nat} {most : Int} {L : List Ent} {T : List KRow} (h : Pq B w pp tp p mb most L T) (x y : Int) (hx : isKnown L x) (hy : isKnown L y) (x0 : x ≠ 0) (y0 : y ≠ 0) (hl : (txt L x).length + (txt L y).length ≤ 1152921504606846976) (hm : (L.length : Int) < most) (hL : L.length < 1000000) :
    Calls Tryz.prog 29 #[.pointer (some ⟨p, 0, none⟩), .int .i64 x, .int .i64 y] w (MkQ B w pp tp p mb most (addL L (pairEnt L x y)) T (addI L (pairEnt L x y))) := by
  obtain ⟨sv, hS', s1, s2, s3⟩ := h.st
  have l1 := txt_len h.dok h.sok _ x (Nat.le_refl _) hx
  have l2 := txt_len h.dok h.sok _ y (Nat.le_refl _) hy
  refine (st_Pair hS' h.sok x y hx hy x0 y0 (by omega) hm (by omega)).mono ?_
  rintro e w' ⟨rfl, hst⟩
  obtain ⟨q1, q2⟩ := Sto.step hS' s1 s2 s3 h.base hst
  exact ⟨rfl, h.rules q1 q2 (pair_new h.sok h.dok h.uq hx hy x0 y0 hl).1 (by have := (addL_len L (pairEnt L x y)).2; omega), Ks.ofK q2⟩

theorem pq_Power {B : Nat} {w : World} {pp tp p mb : Nat} {most : Int} {L : List Ent} {T : List KRow} (h : Pq B w pp tp p mb most L T) (x : Int) (k : Nat) (hx : isKnown L x) (x0 : x ≠ 0) (hk : 2 ≤ k) (hl : (txt L x).length * k ≤ 1152921504606846976) (hm : (L.length : Int) < most) (hL : L.length < 1000000) :
    Calls Tryz.prog 28 #[.pointer (some ⟨p, 0, none⟩), .int .i64 x, .int .i64 k] w (MkQ B w pp tp p mb most (addL L (powEnt L x k)) T (addI L (powEnt L x k))) := by
  obtain ⟨sv, hS', s1, s2, s3⟩ := h.st
  have l1 := txt_len h.dok h.sok _ x (Nat.le_refl _) hx
  refine (st_Power hS' h.sok x k hx x0 hk (by rw [← l1, ← Int.natCast_mul]; omega) hm (by omega)).mono ?_
  rintro e w' ⟨rfl, hst⟩
  obtain ⟨q1, q2⟩ := Sto.step hS' s1 s2 s3 h.base hst
  exact ⟨rfl, h.rules q1 q2 (pow_new h.sok h.dok h.uq hx x0 hk hl).1 (by have := (addL_len L (powEnt L x k)).2; omega), Ks.ofK q2⟩

/-- The letters of a text. -/
def letF : List Ent → List Int → List Ent × List Int
  | L, [] => (L, [])
  | L, b :: r => ((letF (addL L (letterEnt b)) r).1, addI L (letterEnt b) :: (letF (addL L (letterEnt b)) r).2)

theorem letF_snoc (b : Int) : ∀ (bs : List Int) (L : List Ent), letF L (bs ++ [b]) = (addL (letF L bs).1 (letterEnt b), (letF L bs).2 ++ [addI (letF L bs).1 (letterEnt b)])
  | [], L => rfl
  | x :: bs, L => by
    show ((letF (addL L (letterEnt x)) (bs ++ [b])).1, addI L (letterEnt x) :: (letF (addL L (letterEnt x)) (bs ++ [b])).2) = _
    rw [letF_snoc b bs]
    rfl

theorem letF_ok : ∀ (bs : List Int) (L : List Ent), SOk L → DOk L → Uq L → (∀ b ∈ bs, 0 ≤ b ∧ b < 256) →
    Gu L (letF L bs).1 bs.length ∧ (∀ u ∈ (letF L bs).2, isKnown (letF L bs).1 u ∧ u ≠ 0 ∧ klev (letF L bs).1 u = 0) ∧ txts (letF L bs).1 (letF L bs).2 = bs ∧ (letF L bs).2.length = bs.length
  | [], L, hS, hD, hU, _ => ⟨Gu.refl hS hD hU, fun u hu => by simp [letF] at hu, rfl, rfl⟩
  | b :: bs, L, hS, hD, hU, hb => by
    obtain ⟨g1, g2, g3, g4, g5⟩ := letter_new hS hD hU b (hb b (by simp)).1 (hb b (by simp)).2
    obtain ⟨i1, i2, i3, i4⟩ := letF_ok bs (addL L (letterEnt b)) g1.gr.sok g1.gr.dok g1.uq (fun x hx => hb x (by simp [hx]))
    obtain ⟨M, hM⟩ := i1.gr.ext
    have hd := i1.gr.dok
    have e1 : klev (letF (addL L (letterEnt b)) bs).1 (addI L (letterEnt b)) = 0 := by
      rw [hM] at hd ⊢
      rw [(kl_more g1.gr.dok M hd _ _ (Nat.le_refl _) g2 g3).2, g5]
    have e2 : txt (letF (addL L (letterEnt b)) bs).1 (addI L (letterEnt b)) = [b] := by rw [hM, txt_append g1.gr.dok M g2, g4]
    refine ⟨g1.trans i1 (by simp only [List.length_cons]; omega), fun u hu => ?_, ?_, ?_⟩
    · rcases List.mem_cons.1 hu with e | hu
      · rw [e]
        refine ⟨?_, g3, e1⟩
        show isKnown (letF (addL L (letterEnt b)) bs).1 _
        rw [hM]
        exact known_more g2 M
      · exact i2 u hu
    · show txts (letF (addL L (letterEnt b)) bs).1 (addI L (letterEnt b) :: (letF (addL L (letterEnt b)) bs).2) = b :: bs
      rw [txts_cons, e2, i3]
      rfl
    · show (addI L (letterEnt b) :: (letF (addL L (letterEnt b)) bs).2).length = _
      simp [i4]

/-- The letters are a sequence ahead of level 1. -/
theorem letF_seq {L : List Ent} {bs : List Int} (hS : SOk L) (hD : DOk L) (hU : Uq L) (hb : ∀ b ∈ bs, 0 ≤ b ∧ b < 256) : SeqI (letF L bs).1 1 (letF L bs).2 := by
  obtain ⟨h1, h2, h3, h4⟩ := letF_ok bs L hS hD hU hb
  have hall : ∀ (R : Int → Int → Prop) (l : List Int), (∀ x ∈ l, ∀ y ∈ l, R x y) → Adj R l := by
    intro R l
    induction l with
    | nil => intro _; trivial
    | cons x l ih =>
      intro h
      cases l with
      | nil => trivial
      | cons y t => exact ⟨h x (by simp) y (by simp), ih (fun a ha b hb => h a (by simp [List.mem_cons] at ha ⊢; exact .inr ha) b (by simp [List.mem_cons] at hb ⊢; exact .inr hb))⟩
  refine ⟨fun u hu => ⟨(h2 u hu).1, (h2 u hu).2.1⟩, fun u hu => by rw [(h2 u hu).2.2]; omega, hall _ _ (fun u hu v hv k k1 k2 => ?_), hall _ _ (fun u hu v hv _ => ⟨by decide, by rw [(h2 u hu).2.2]; rfl⟩)⟩
  rw [(h2 u hu).2.2, (h2 v hv).2.2] at k1
  omega

theorem kl_seq {L : List Ent} (hD : DOk L) {M : List Ent} (hD' : DOk (L ++ M)) : ∀ (ids : List Int), (∀ u ∈ ids, isKnown L u ∧ u ≠ 0) → ids.map (kkey (L ++ M)) = ids.map (kkey L) := by
  intro ids h
  exact List.map_congr_left (fun u hu => (kl_more hD M hD' _ u (Nat.le_refl _) (h u hu).1 (h u hu).2).1)

end Go.Proofs.YtodmpcnpedpheaaGreatDoor

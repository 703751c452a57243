/- Plain words: the inverse of a patch. No program. -/
import Derived.Test.YtclpndigmidjkaaQCm37
set_option linter.unusedSimpArgs false
set_option linter.unusedVariables false
namespace Go.Proofs.Ytclpndigmidjkaa
open Go.RowKit

/-- The inverse of a patch; m: how many letters more the result has. -/
def invG (t : List Int) : Int → List PC → List PC
  | _, [] => []
  | m, c :: r => ⟨c.at_ + m, (c.text.length : Int), cutL t c.at_ c.n⟩ :: invG t (m + ((c.text.length : Int) - c.n)) r

theorem invG_len (t : List Int) : ∀ (ps : List PC) (m : Int), (invG t m ps).length = ps.length
  | [], _ => rfl
  | c :: r, m => by simp [invG, invG_len t r]

theorem inv_back (t : List Int) : ∀ (ps : List PC) (P : List Int) (f last : Int), validP t.length last ps = true → 0 ≤ f → f ≤ t.length → f ≤ last + 1 →
    patG id (P ++ patG id t f ps) P.length (invG t ((P.length : Int) - f) ps) = t.drop f.toNat ∧ validP (P ++ patG id t f ps).length (last + ((P.length : Int) - f)) (invG t ((P.length : Int) - f) ps) = true
  | [], P, f, last, _, h0, h1, h2 => by
    refine ⟨?_, rfl⟩
    simp [patG, invG]
  | c :: r, P, f, last, h, h0, h1, h2 => by
    unfold validP at h
    rw [Bool.and_eq_true] at h
    obtain ⟨t1, t2, t3, t4, t5⟩ := fitP_true h.1
    obtain ⟨A, hA⟩ : ∃ A, (t.drop f.toNat).take (c.at_ - f).toNat = A := ⟨_, rfl⟩
    have hAl : (A.length : Int) = c.at_ - f := by rw [← hA, List.length_take, List.length_drop]; omega
    have hcl := cut_len (t := t) t1 t2 t3
    obtain ⟨R, hR⟩ : ∃ R, patG id t (c.at_ + c.n) r = R := ⟨_, rfl⟩
    have ih := inv_back t r (P ++ (A ++ c.text)) (c.at_ + c.n) (c.at_ + c.n) h.2 (by omega) t3 (by omega)
    rw [hR] at ih
    have hPl : ((P ++ (A ++ c.text)).length : Int) = (P.length : Int) + (c.at_ - f) + c.text.length := by rw [List.length_append, List.length_append]; omega
    have hU : P ++ patG id t f (c :: r) = (P ++ (A ++ c.text)) ++ R := by
      unfold patG
      rw [hA, hR, List.map_id]
      simp
    rw [hU]
    have hm : (P.length : Int) - f + ((c.text.length : Int) - c.n) = ((P ++ (A ++ c.text)).length : Int) - (c.at_ + c.n) := by omega
    have e1 : c.at_ + ((P.length : Int) - f) + (c.text.length : Int) = ((P ++ (A ++ c.text)).length : Int) := by omega
    constructor
    · show (((P ++ (A ++ c.text)) ++ R).drop (P.length : Int).toNat).take (c.at_ + ((P.length : Int) - f) - (P.length : Int)).toNat ++ ((cutL t c.at_ c.n).map id ++ patG id ((P ++ (A ++ c.text)) ++ R) (c.at_ + ((P.length : Int) - f) + (c.text.length : Int)) (invG t ((P.length : Int) - f + ((c.text.length : Int) - c.n)) r)) = _
      rw [e1, hm, ih.1, List.map_id]
      have e2 : (((P ++ (A ++ c.text)) ++ R).drop (P.length : Int).toNat).take (c.at_ + ((P.length : Int) - f) - (P.length : Int)).toNat = A := by
        rw [Int.toNat_natCast, show (c.at_ + ((P.length : Int) - f) - (P.length : Int)).toNat = A.length by omega, List.append_assoc, List.drop_left, List.append_assoc, List.take_left]
      rw [e2, ← hA]
      unfold cutL
      rw [show (c.at_ + c.n).toNat = c.at_.toNat + c.n.toNat by omega, ← List.drop_drop, List.take_append_drop, show c.at_.toNat = f.toNat + (c.at_ - f).toNat by omega, ← List.drop_drop, List.take_append_drop]
    · show (fitP _ _ _ && validP _ (c.at_ + ((P.length : Int) - f) + (c.text.length : Int)) (invG t ((P.length : Int) - f + ((c.text.length : Int) - c.n)) r)) = true
      rw [e1, hm, Bool.and_eq_true]
      refine ⟨decide_eq_true ⟨by show 0 ≤ c.at_ + _; omega, by show (0 : Int) ≤ (c.text.length : Int); omega, ?_, by show _ < c.at_ + _; omega, ?_⟩, ?_⟩
      · show c.at_ + ((P.length : Int) - f) + (c.text.length : Int) ≤ _
        rw [e1]
        have := @List.length_append Int (P ++ (A ++ c.text)) R
        omega
      · rintro ⟨g1, g2⟩
        have g1' : (c.text.length : Int) = 0 := g1
        have g2' : cutL t c.at_ c.n = [] := g2
        rw [g2'] at hcl
        exact t5 ⟨by simpa using hcl.symm, List.eq_nil_of_length_eq_zero (by omega)⟩
      · have := ih.2
        rw [show c.at_ + c.n + (((P ++ (A ++ c.text)).length : Int) - (c.at_ + c.n)) = ((P ++ (A ++ c.text)).length : Int) by omega] at this
        exact this

/-- The inverse leads back. -/
theorem inv_ok {t : List Int} {ps : List PC} (h : validP t.length (-1) ps = true) : patR (patR t ps) (invG t 0 ps) = t ∧ validP (patR t ps).length (-1) (invG t 0 ps) = true := by
  have := inv_back t ps [] 0 (-1) h (by omega) (by omega) (by omega)
  simpa [patR] using this

end Go.Proofs.Ytclpndigmidjkaa

/- The walk of table.change. -/
import Derived.Test.YtgldjpldldknoaaGreatDoorRAc5
import Derived.Test.YtgldjpldldknoaaGreatDoorRPx5
import Derived.Deep.RegionHeld3
import Derived.Deep.AppendLies
import Derived.Test.YtgldjpldldknoaaGreatDoorRSet
set_option linter.unusedSimpArgs false
set_option linter.unusedVariables false
namespace Go.Proofs.YtgldjpldldknoaaGreatDoor
open Go.RowKit
theorem reps_mem {t : List Int} {x : Int} : ∀ {k : Nat}, x ∈ reps t k → x ∈ t
 | 0, h => by simp [reps] at h
 | k + 1, h => by
  rw [reps_succ] at h
  rcases List.mem_append.1 h with e | e
  · exact e
  · exact reps_mem e
theorem txt_rng {L : List Ent} (hD : DOk L) (hU : Uq L) : ∀ (n : Nat) (id : Int), id.toNat ≤ n → isKnown L id → ∀ x ∈ txt L id, 0 ≤ x ∧ x < 256 := by
 intro n
 induction n with
 | zero => intro id h hk x hx; have := hk.1; obtain rfl : id = 0 := by omega
           rw [txt_zero] at hx; simp at hx
 | succ n ih =>
  intro id h hk x hx
  by_cases h0 : id = 0
  · rw [h0, txt_zero] at hx; simp at hx
  · have h1 := hk.1
    have h2 := hk.2
    rcases hD.at id hk h0 with ⟨g1, _⟩ | ⟨g1, g2, _⟩ | ⟨g1, g2, _⟩
    · rw [txt_letter hk h0 g1, List.mem_singleton] at hx
      rw [hx]; exact hU.ltr id hk h0 g1
    · rw [txt_pair hD hk h0 g1] at hx
      rcases List.mem_append.1 hx with e | e
      · exact ih _ (by omega) ⟨by omega, by omega⟩ x e
      · exact ih _ (by omega) ⟨by omega, by omega⟩ x e
    · rw [txt_pow hD hk h0 g1] at hx
      exact ih _ (by omega) ⟨by omega, by omega⟩ x (reps_mem hx)
theorem bytes_own {base : Nat} {w : World} {v : Value} {out : List Int} (h : w.ownsRow base 5 1 v out.length (out.flatMap byz)) (h0 : out ≠ []) (hr : ∀ x ∈ out, 0 ≤ x ∧ x < 256) : ∃ g cap, v = .slice (some ⟨g, 0, none⟩) out.length cap ∧ BytesAt w g 0 out ∧ out.length ≤ cap ∧ cap ≤ maxLen := by
 rcases h.2 with ⟨_, e⟩ | ⟨g, cap, cur, e, _, hg, h1, h2, _, ht⟩
 · exact absurd (List.eq_nil_of_length_eq_zero e) h0
 · refine ⟨g, cap, e, ⟨⟨cur, (0, 0), hg, fun i hi => ?_⟩, hr⟩, h1, h2⟩
   have e2 := flat_get byz 1 out (fun _ _ => rfl) i 0 (by omega) _ (List.getElem?_eq_getElem hi)
   have h3 := congrArg (fun l => l[i]?) ht
   rw [List.getElem?_take_of_lt (by omega)] at h3
   rw [Nat.mul_one, Nat.add_zero] at e2
   rw [e2] at h3
   rw [Nat.zero_add, ← Array.getElem?_toList, h3]
   rfl
end Go.Proofs.YtgldjpldldknoaaGreatDoor

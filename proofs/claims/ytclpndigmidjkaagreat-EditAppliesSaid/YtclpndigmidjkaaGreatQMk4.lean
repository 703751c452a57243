/- evergreenref12.One as a whole; the walk of evergreenref12.Build. -/
import Derived.Test.YtclpndigmidjkaaGreatQMk3
set_option linter.unusedSimpArgs false
set_option linter.unusedVariables false
namespace Go.Proofs.YtclpndigmidjkaaGreat
open Go.RowKit

theorem ref12_One {w : World} {va vb : Value} {L : List Ent} (hS : RSt w va vb L) (hO : SOk L) (hl : L.length ≤ 900) (m : Mk) (hm : m.Ok) (rs : List Int) {B : Nat} {a : Option Addr} {cap : Nat} (hR : RG idv 1 B w a rs) (h0 : 0 < rs.length) (h1 : rs.length ≤ 1000) (hk : ∀ x ∈ rs, isKnown L x) :
    Calls Tryz.prog 58 #[.agg #[va, vb], .agg #[.int .i64 m.kind, .int .u8 m.letter, .int .i64 m.left, .int .i64 m.right, .int .i64 m.times], .slice a rs.length cap] w (OnePost w (oneL L m rs).1 (oneL L m rs).2) := by
  have kl := pick_known hk m.left
  have kr := pick_known hk m.right
  have ol := hO.at _ kl
  have or_ := hO.at _ kr
  have n1 := ol.1.len0
  have n2 := ol.1.len1
  have n3 := or_.1.len0
  have n4 := or_.1.len1
  have e0 := Int.emod_nonneg m.kind (show (4 : Int) ≠ 0 by omega)
  have e1 := Int.emod_lt_of_pos m.kind (show (0 : Int) < 4 by omega)
  unfold oneL MaxL
  by_cases c0 : m.kind % 4 = 0
  · rw [if_pos c0]
    exact ref12_One_letter hS hl m hm rs hR h0 h1 c0
  · rw [if_neg c0]
    by_cases c3 : m.kind % 4 = 3
    · rw [if_pos c3]
      by_cases l0 : pickR rs m.left = 0
      · rw [if_pos (.inl l0)]
        exact ref12_One_pow0 hS hO hl m hm rs hR h0 h1 _ _ _ rfl rfl rfl kl kr c3 l0
      · have hn := (ol.2.2.2 l0).1
        by_cases t0 : m.times ≤ 0
        · rw [if_pos (.inr (.inl t0))]
          exact ref12_One_pow1 hS hO hl m hm rs hR h0 h1 _ _ _ rfl rfl rfl kl kr c3 l0 t0
        · by_cases t1 : 1152921504606846976 / (entAt L (pickR rs m.left)).wt.len < m.times
          · rw [if_pos (.inr (.inr t1))]
            exact ref12_One_pow2 hS hO hl m hm rs hR h0 h1 _ _ _ rfl rfl rfl kl kr c3 l0 _ rfl hn n2 (by omega) t1
          · rw [if_neg (by rintro (h | h | h); exact l0 h; exact t0 h; exact t1 h)]
            by_cases t2 : m.times = 1
            · rw [if_pos t2]
              exact ref12_One_pow3 hS hO hl m hm rs hR h0 h1 _ _ _ rfl rfl rfl kl kr c3 l0 _ rfl hn n2 t2
            · rw [if_neg t2]
              exact ref12_One_pow4 hS hO hl m hm rs hR h0 h1 _ _ _ rfl rfl rfl kl kr c3 l0 _ rfl hn n2 (by omega) t1
    · rw [if_neg c3]
      have c12 : m.kind % 4 = 1 ∨ m.kind % 4 = 2 := by omega
      by_cases l0 : pickR rs m.left = 0
      · rw [if_pos l0]
        exact ref12_One_same0 hS hO hl m hm rs hR h0 h1 _ _ _ rfl rfl rfl kl kr c12 l0
      · rw [if_neg l0]
        by_cases r0 : pickR rs m.right = 0
        · rw [if_pos r0]
          exact ref12_One_same1 hS hO hl m hm rs hR h0 h1 _ _ _ rfl rfl rfl kl kr c12 l0 r0
        · rw [if_neg r0]
          by_cases hd : 1152921504606846976 - (entAt L (pickR rs m.right)).wt.len < (entAt L (pickR rs m.left)).wt.len
          · rw [if_pos hd]
            exact ref12_One_long hS hO hl m hm rs hR h0 h1 _ _ _ rfl rfl rfl kl kr c12 l0 r0 _ _ rfl n1 n2 rfl n3 n4 hd
          · rw [if_neg hd]
            exact ref12_One_pair hS hO hl m hm rs hR h0 h1 _ _ _ rfl rfl rfl kl kr c12 l0 r0 _ _ rfl n1 n2 rfl n3 n4 hd

/-- What a Make keeps: the entries are good, and the results are known. -/
theorem oneL_ok {L : List Ent} (hO : SOk L) {m : Mk} (hm : m.Ok) {rs : List Int} (hk : ∀ x ∈ rs, isKnown L x) :
    SOk (oneL L m rs).1 ∧ (∀ x ∈ rs ++ [(oneL L m rs).2], isKnown (oneL L m rs).1 x) ∧ L.length ≤ (oneL L m rs).1.length ∧ (oneL L m rs).1.length ≤ L.length + 1 ∧ ∃ M, (oneL L m rs).1 = L ++ M := by
  have kl := pick_known hk m.left
  have kr := pick_known hk m.right
  have same : ∀ id, isKnown L id → SOk L ∧ (∀ x ∈ rs ++ [id], isKnown L x) ∧ L.length ≤ L.length ∧ L.length ≤ L.length + 1 ∧ ∃ M, L = L ++ M := by
    intro id hid
    refine ⟨hO, fun x hx => ?_, Nat.le_refl _, by omega, [], by simp⟩
    rcases List.mem_append.1 hx with hx | hx
    · exact hk x hx
    · simp only [List.mem_singleton] at hx
      rw [hx]; exact hid
  have add : ∀ e, SOk (addL L e) → SOk (addL L e) ∧ (∀ x ∈ rs ++ [addI L e], isKnown (addL L e) x) ∧ L.length ≤ (addL L e).length ∧ (addL L e).length ≤ L.length + 1 ∧ ∃ M, addL L e = L ++ M := by
    intro e he
    obtain ⟨M, hM⟩ := addL_ext L e
    refine ⟨he, fun x hx => ?_, (addL_len L e).1, (addL_len L e).2, M, hM⟩
    rcases List.mem_append.1 hx with hx | hx
    · rw [hM]; exact isKnown_append M (hk x hx)
    · simp only [List.mem_singleton] at hx
      rw [hx]; exact (addI_known L e).1
  have zero : isKnown L 0 := ⟨Int.le_refl _, by show (0 : Int) ≤ _; omega⟩
  unfold oneL MaxL
  by_cases c0 : m.kind % 4 = 0
  · rw [if_pos c0]
    exact add _ (hO.letter _ hm.l0 hm.l1)
  · rw [if_neg c0]
    by_cases c3 : m.kind % 4 = 3
    · rw [if_pos c3]
      by_cases c : pickR rs m.left = 0 ∨ m.times ≤ 0 ∨ 1152921504606846976 / (entAt L (pickR rs m.left)).wt.len < m.times
      · rw [if_pos c]; exact same 0 zero
      · rw [if_neg c]
        have l0 : pickR rs m.left ≠ 0 := fun h => c (.inl h)
        by_cases t2 : m.times = 1
        · rw [if_pos t2]; exact same _ kl
        · rw [if_neg t2]
          refine add _ (hO.pow _ _ kl l0 (by omega) ?_)
          have hn := ((hO.at _ kl).2.2.2 l0).1
          have h2 := (Int.le_ediv_iff_mul_le (show 0 < (entAt L (pickR rs m.left)).wt.len by omega)).1 (show m.times ≤ 1152921504606846976 / (entAt L (pickR rs m.left)).wt.len by omega)
          rw [Int.mul_comm]; exact h2
    · rw [if_neg c3]
      by_cases l0 : pickR rs m.left = 0
      · rw [if_pos l0]; exact same _ kr
      · rw [if_neg l0]
        by_cases r0 : pickR rs m.right = 0
        · rw [if_pos r0]; exact same _ kl
        · rw [if_neg r0]
          by_cases hd : 1152921504606846976 - (entAt L (pickR rs m.right)).wt.len < (entAt L (pickR rs m.left)).wt.len
          · rw [if_pos hd]; exact same 0 zero
          · rw [if_neg hd]
            exact add _ (hO.pair _ _ kl kr l0 r0 (by omega))

/-- A list of Makes of the reference. -/
def allL (ms : List Mk) : List Ent × List Int := ms.foldl (fun s m => ((oneL s.1 m s.2).1, s.2 ++ [(oneL s.1 m s.2).2])) ([], [0])

theorem allL_take (ms : List Mk) (k : Nat) (h : k < ms.length) : allL (ms.take (k + 1)) = ((oneL (allL (ms.take k)).1 ms[k] (allL (ms.take k)).2).1, (allL (ms.take k)).2 ++ [(oneL (allL (ms.take k)).1 ms[k] (allL (ms.take k)).2).2]) := by
  unfold allL
  rw [List.take_succ_eq_append_getElem h, List.foldl_append]
  rfl

theorem allL_ok (ms : List Mk) (hm : ∀ m ∈ ms, m.Ok) : ∀ k, k ≤ ms.length → SOk (allL (ms.take k)).1 ∧ (∀ x ∈ (allL (ms.take k)).2, isKnown (allL (ms.take k)).1 x) ∧ (allL (ms.take k)).1.length ≤ k ∧ (allL (ms.take k)).2.length = k + 1 := by
  intro k
  induction k with
  | zero => exact fun _ => ⟨SOk.nil, fun x hx => by simp [allL] at hx; subst hx; exact ⟨Int.le_refl _, by simp [allL]⟩, by simp [allL], by simp [allL]⟩
  | succ k ih =>
    intro hk
    obtain ⟨h1, h2, h3, h4⟩ := ih (by omega)
    obtain ⟨q1, q2, q3, q4, _⟩ := oneL_ok h1 (hm ms[k] (List.getElem_mem _)) h2
    rw [allL_take ms k (by omega)]
    exact ⟨q1, q2, by show (oneL _ _ _).1.length ≤ _; omega, by rw [List.length_append, h4]; rfl⟩

end Go.Proofs.YtclpndigmidjkaaGreat

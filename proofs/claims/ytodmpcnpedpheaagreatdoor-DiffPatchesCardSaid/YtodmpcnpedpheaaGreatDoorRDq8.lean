/- The walk of diff.Of . -/
import Derived.Test.YtodmpcnpedpheaaGreatDoorRDq7
set_option linter.unusedSimpArgs false
set_option linter.unusedVariables false
namespace Go.Proofs.YtodmpcnpedpheaaGreatDoor
open Go.RowKit

set_option maxRecDepth 100000 in
set_option maxHeartbeats 4000000 in
theorem df_Of {B0 : Nat} {w : World} {pp tp p mb : Nat} {most : Int} {L : List Ent} {T : List KRow} {a b : Int} {A B : List Int} (hp : Pq B0 w pp tp p mb most L T) (ha : SigOk L a) (hb : SigOk L b) (eA : txt L a = A) (eB : txt L b = B) (hA : A.length ≤ 300) (hB : B.length ≤ 300) (hD : edp A B 0 0 ≤ 256) (hL : L.length + 2 * B.length ≤ 5000) (hmost : 6000 ≤ most) :
    Calls Tryz.prog 13 #[.pointer (some ⟨pp, 0, none⟩), .int .i64 a, .int .i64 b] w (ScPost B0 w pp tp p mb most L A B) := by
  have C := df_compare hp ha hb eA eB hA hB
  unfold CqPost at C
  simp only [if_pos hD] at C
  have HC := Lib.hid C
  have CS : Hid (∀ w1 tb rs v, CqW B0 w w1 pp tp p mb most L tb a b A.length B.length rs v → rs.length = edp A B 0 0 + 1 → (∀ i (hi : i < rs.length), rs[i].1 = rowF A B i) → Calls Tryz.prog 35 #[.pointer (some ⟨tb, 0, none⟩)] w1 (ScPost B0 w pp tp p mb most L A B)) := fun w1 tb rs v h1 h2 h3 => by
    obtain ⟨T1, hP1⟩ := h1.ex
    refine (df_script hP1 h1.tab h3 h2 hD ha hb eA eB hA hB hL hmost).mono ?_
    rintro e w' ⟨L', cs, pv, rfl, hq, hk, hg, hr, hc⟩
    exact ⟨L', cs, pv, rfl, hq, Ks.trans h1.kx hk, hg, owns_dn hr h1.kx.size, hc⟩
  clear C hp ha hb eA eB
  go_enter Tryz.func13, Tryz.ntmps13
  go_wp2_with fail
  refine HC.out.mono ?_
  rintro e w1 ⟨tb, rs, v, rfl, hC, hl, hR⟩
  have CS1 := Lib.hid (CS.out _ _ _ _ hC hl hR)
  clear hC hl hR HC CS
  go_wp2_with fail
  refine CS1.out.mono ?_
  rintro e w2 ⟨L', cs, pv, rfl, hq, hk, hg, hr, hc⟩
  go_wp2_with fail
  go_ret2
  exact ⟨L', cs, pv, rfl, hq, hk, hg, hr, hc⟩

/-- The constants of the law's parser. -/
theorem edp_abba : edp [97, 98] [98, 97] 0 0 = 2 := by
  rw [edp_all, ed_ne _ _ (by decide), ed_eq _ _ rfl, ed_eq _ _ rfl, ed_nl, ed_nr]
  rfl
theorem scr_abba : scrQ [97, 98] [98, 97] 2 0 0 0 0 = [⟨0, 1, 0, 0⟩, ⟨2, 2, 1, 2⟩] := by rfl

theorem ChR.two {B : List Int} {L : List Ent} {q1 q2 : Qd} {cs : List (Int × Int × Int)} (h : ChR B L [q1, q2] cs) : ∃ i1 i2, cs = [((q1.fx : Int), (q1.x : Int) - q1.fx, i1), ((q2.fx : Int), (q2.x : Int) - q2.fx, i2)] ∧ (q1.y = q1.fy → i1 = 0) := by
  generalize hq : [q1, q2] = qs at h
  cases h with
  | nil => simp at hq
  | @snoc qs' cs' q id h1 h2 _ =>
    have e1 : qs' = [q1] ∧ q = q2 := by
      have := congrArg List.reverse hq
      simp at this
      obtain ⟨rfl, h3⟩ := this
      have h4 := congrArg List.reverse h3
      simp at h4
      exact ⟨h4.symm, rfl⟩
    obtain ⟨rfl, rfl⟩ := e1
    generalize hq2 : [q1] = qs2 at h1
    cases h1 with
    | nil => simp at hq2
    | @snoc qs3 cs3 q3 id3 h5 h6 _ =>
      have e2 : qs3 = [] ∧ q3 = q1 := by
        have := congrArg List.reverse hq2
        simp at this
        exact ⟨this.2.symm ▸ rfl, this.1.symm⟩
      obtain ⟨rfl, rfl⟩ := e2
      generalize hq4 : ([] : List Qd) = qs5 at h5
      cases h5 with
      | nil => exact ⟨id3, id, rfl, h6⟩
      | snoc _ _ _ => simp at hq4

end Go.Proofs.YtodmpcnpedpheaaGreatDoor

/- The walks of diff.Distance and diff.Ratio. -/
import Derived.Test.YtodmpcnpedpheaaGreatDoorRDq4
set_option linter.unusedSimpArgs false
set_option linter.unusedVariables false
namespace Go.Proofs.YtodmpcnpedpheaaGreatDoor
open Go.RowKit

def distV (A B : List Int) : Value := if edp A B 0 0 ≤ 256 then .tuple #[.int .i64 (edp A B 0 0 : Nat), .nilIface] else .tuple #[.int .i64 0, errV 9]
def ratioV (A B : List Int) : Value := if edp A B 0 0 ≤ 256 then .tuple #[.int .i64 (((A.length : Int) + B.length - (edp A B 0 0 : Nat)) / 2), .nilIface] else .tuple #[.int .i64 0, errV 9]

set_option maxRecDepth 100000 in
set_option maxHeartbeats 4000000 in
theorem df_Distance {B0 : Nat} {w : World} {pp tp p mb : Nat} {most : Int} {L : List Ent} {T : List KRow} {a b : Int} {A B : List Int} (hp : Pq B0 w pp tp p mb most L T) (ha : SigOk L a) (hb : SigOk L b) (eA : txt L a = A) (eB : txt L b = B) (hA : A.length ≤ 300) (hB : B.length ≤ 300) :
    Calls Tryz.prog 12 #[.pointer (some ⟨pp, 0, none⟩), .int .i64 a, .int .i64 b] w (KyPost B0 w pp tp p mb most L (distV A B)) := by
  have C := df_compare hp ha hb eA eB hA hB
  unfold CqPost at C
  by_cases hD : edp A B 0 0 ≤ 256
  · have hV : distV A B = .tuple #[.int .i64 (edp A B 0 0 : Nat), .nilIface] := if_pos hD
    rw [hV]
    simp only [if_pos hD] at C
    have HC := Lib.hid C
    clear C hp ha hb
    generalize edp A B 0 0 = D at *
    clear hV
    go_enter Tryz.func12, Tryz.ntmps12
    go_wp2_with fail
    refine HC.out.mono ?_
    rintro e w1 ⟨tb, rs, v, rfl, hC, hl, hR⟩
    have CD := Lib.hid (df_distance hC.tab (by omega) (by omega))
    rw [hl, Nat.add_sub_cancel] at CD
    obtain ⟨T1, hP⟩ := hC.ex
    have HP := Lib.hid hP
    have HX := Lib.hid hC.kx
    clear hC hl hR hP HC
    go_wp2_with fail
    refine CD.out.mono ?_
    rintro e w2 ⟨rfl, rfl⟩
    go_wp2_with fail
    go_ret2
    exact ⟨T1, rfl, HP.out, HX.out⟩
  · have hV : distV A B = .tuple #[.int .i64 0, errV 9] := if_neg hD
    rw [hV]
    simp only [if_neg hD] at C
    have e9 : errV 9 = .iface 43 (.int .i64 9) := rfl
    rw [e9] at C ⊢
    have HC := Lib.hid C
    clear C hp ha hb hV e9
    go_enter Tryz.func12, Tryz.ntmps12
    go_wp2_with fail
    refine HC.out.mono ?_
    rintro e w1 ⟨rfl, ⟨T1, hP⟩, hX⟩
    have HP := Lib.hid hP
    have HX := Lib.hid hX
    clear hP hX HC
    go_wp2_with fail
    go_ret2
    exact ⟨T1, rfl, HP.out, HX.out⟩

set_option maxRecDepth 100000 in
set_option maxHeartbeats 4000000 in
theorem df_Ratio {B0 : Nat} {w : World} {pp tp p mb : Nat} {most : Int} {L : List Ent} {T : List KRow} {a b : Int} {A B : List Int} (hp : Pq B0 w pp tp p mb most L T) (ha : SigOk L a) (hb : SigOk L b) (eA : txt L a = A) (eB : txt L b = B) (hA : A.length ≤ 300) (hB : B.length ≤ 300) :
    Calls Tryz.prog 14 #[.pointer (some ⟨pp, 0, none⟩), .int .i64 a, .int .i64 b] w (KyPost B0 w pp tp p mb most L (ratioV A B)) := by
  have C := df_compare hp ha hb eA eB hA hB
  unfold CqPost at C
  have hgap := ed_gap A B
  rw [← edp_all] at hgap
  by_cases hD : edp A B 0 0 ≤ 256
  · have hV : ratioV A B = .tuple #[.int .i64 (((A.length : Int) + B.length - (edp A B 0 0 : Nat)) / 2), .nilIface] := if_pos hD
    rw [hV]
    simp only [if_pos hD] at C
    have HC := Lib.hid C
    clear C hp ha hb
    generalize edp A B 0 0 = D at *
    have q1 : IntKind.i64.wrap ((A.length : Int) + (B.length : Int)) = (A.length : Int) + (B.length : Int) := wrapI (by omega) (by omega)
    have q2 : IntKind.i64.wrap ((A.length : Int) + (B.length : Int) - (D : Int)) = (A.length : Int) + (B.length : Int) - (D : Int) := wrapI (by omega) (by omega)
    have q3 : (0 : Int) ≤ (A.length : Int) + (B.length : Int) - (D : Int) := by omega
    have Q4 : Hid (IntKind.i64.wrap (((A.length : Int) + (B.length : Int) - (D : Int)).tdiv 2) = ((A.length : Int) + (B.length : Int) - (D : Int)) / 2) := by
      show _ = _
      rw [Int.tdiv_eq_ediv_of_nonneg q3]
      exact wrapI (by omega) (by omega)
    clear hV
    go_enter Tryz.func14, Tryz.ntmps14
    go_wp2_with fail
    refine HC.out.mono ?_
    rintro e w1 ⟨tb, rs, v, rfl, hC, hl, hR⟩
    have CD := Lib.hid (fun W (hW : Fr0 w1 W) => df_distance (hC.tab.kept0 hW) (by omega) (by omega))
    rw [hl, Nat.add_sub_cancel] at CD
    obtain ⟨T1, hP⟩ := hC.ex
    have HP := Lib.hid hP
    have HX := Lib.hid hC.kx
    obtain ⟨c0, c1, c2, c3, c4, c5, lt, cf⟩ := cells6t hC.tab.box
    clear hC hl hR hP HC
    go_upto_region 4 with fail
    refine region_still (by kernel_rfl) (by kernel_rfl) ?_
    iterate 10 still_step
    still_call (CD.out _ (Fr0.refl w1).drew)
    iterate 4 still_step
    refine wpStill_nil ?_
    go_wp2_with fail
    go_ret2
    refine ⟨T1, ?_, HP.out.kept0 (Fr0.refl w1).drew, Ks.trans HX.out (Ks.of0 (Fr0.refl w1).drew)⟩
    exact congrArg (fun x => Ending.returned (.tuple #[.int .i64 x, .nilIface])) Q4.out
  · have hV : ratioV A B = .tuple #[.int .i64 0, errV 9] := if_neg hD
    rw [hV]
    simp only [if_neg hD] at C
    have e9 : errV 9 = .iface 43 (.int .i64 9) := rfl
    rw [e9] at C ⊢
    have HC := Lib.hid C
    clear C hp ha hb hV e9
    go_enter Tryz.func14, Tryz.ntmps14
    go_wp2_with fail
    refine HC.out.mono ?_
    rintro e w1 ⟨rfl, ⟨T1, hP⟩, hX⟩
    have HP := Lib.hid hP
    have HX := Lib.hid hX
    clear hP hX HC
    go_wp2_with fail
    go_ret2
    exact ⟨T1, rfl, HP.out, HX.out⟩

end Go.Proofs.YtodmpcnpedpheaaGreatDoor

/- The walks of diff.compare, Distance, Of, Ratio where they refuse. -/
set_option linter.unusedSimpArgs false
set_option linter.unusedVariables false
namespace Go.Proofs.YtodmpcnpedpheaaGreatDoor
open Go.RowKit

/-- What compare answers where it refuses. -/
def CePost (B0 : Nat) (w : World) (pp tp p mb : Nat) (most : Int) (L : List Ent) (n : Int) (e : Ending) (w' : World) : Prop :=
  e = .returned (.tuple #[.pointer none, .iface 43 (.int .i64 n)]) ∧ (∃ T, Pq B0 w' pp tp p mb most L T) ∧ Kx B0 mb w w'

/-- What the three functions answer where compare refuses. -/
def Ce3 (B0 : Nat) (w : World) (pp tp p mb : Nat) (most : Int) (L : List Ent) (v : Value) (n : Int) (e : Ending) (w' : World) : Prop :=
  e = .returned (.tuple #[v, .iface 43 (.int .i64 n)]) ∧ (∃ T, Pq B0 w' pp tp p mb most L T) ∧ Kx B0 mb w w'

section
variable {B0 : Nat} {w : World} {pp tp p mb : Nat} {most : Int} {L : List Ent} {a b n : Int}

set_option maxRecDepth 100000 in
set_option maxHeartbeats 4000000 in
theorem df_Of_no (C : Calls Tryz.prog 33 #[.pointer (some ⟨pp, 0, none⟩), .int .i64 a, .int .i64 b] w (CePost B0 w pp tp p mb most L n)) :
    Calls Tryz.prog 13 #[.pointer (some ⟨pp, 0, none⟩), .int .i64 a, .int .i64 b] w (Ce3 B0 w pp tp p mb most L (.slice none 0 0) n) := by
  have HC := Lib.hid C
  clear C
  go_enter Tryz.func13, Tryz.ntmps13
  go_wp2_with fail
  refine HC.out.mono ?_
  rintro e w1 ⟨rfl, hP, hX⟩
  go_wp2_with fail
  go_ret2
  exact ⟨rfl, hP, hX⟩
end

end Go.Proofs.YtodmpcnpedpheaaGreatDoor

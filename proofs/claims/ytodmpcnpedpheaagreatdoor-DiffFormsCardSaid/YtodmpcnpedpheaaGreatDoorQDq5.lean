/- The walks of diff.Distance and diff.Ratio. -/
import Derived.Test.YtodmpcnpedpheaaGreatDoorQDq4
set_option linter.unusedSimpArgs false
set_option linter.unusedVariables false
namespace Go.Proofs.YtodmpcnpedpheaaGreatDoor
open Go.RowKit

def distV (A B : List Int) : Value := if edp A B 0 0 ≤ 256 then .tuple #[.int .i64 (edp A B 0 0 : Nat), .nilIface] else .tuple #[.int .i64 0, errV 9]
def ratioV (A B : List Int) : Value := if edp A B 0 0 ≤ 256 then .tuple #[.int .i64 (((A.length : Int) + B.length - (edp A B 0 0 : Nat)) / 2), .nilIface] else .tuple #[.int .i64 0, errV 9]

set_option maxRecDepth 100000 in
set_option maxHeartbeats 4000000 in
theorem df_Distance {B0 : Nat} {w : World} {pp tp p mb : Nat} {most : Int} {L : List Ent} {T : List KRow} {a b : Int} {A B : List Int} (hp : Pq B0 w pp tp p mb most L T) (ha : SigOk L a) (hb : SigOk L b) (eA : txt L a = A) (eB : txt L b = B) (hA : A.length ≤ 300) (hB : B.length ≤ 300) :
    Calls Tryz.prog 12 #[.pointer (some ⟨pp, 0, none⟩), .int .i64 a, .int .i64 b] w (KyPost B0 w pp tp p mb most L (distV A B)) := by
  have C := df_compare hp ha hb eA eB hA hB
  unfold CqPost at C
  by_cases hD : edp A B 0 0 ≤ 256
  · have hV : distV A B = .tuple #[.int .i64 (edp A B 0 0 : Nat), .nilIface] := if_pos hD
    rw [hV]
    simp only [if_pos hD] at C
    have HC := Lib.hid C
    clear C hp ha hb
    generalize edp A B 0 0 = D at *
    clear hV
    go_enter Tryz.func12, Tryz.ntmps12
    go_wp2_with fail
    refine HC.out.mono ?_
    rintro e w1 ⟨tb, rs, v, rfl, hC, hl, hR⟩
    have CD := Lib.hid (df_distance hC.tab (by omega) (by omega))
    rw [hl, Nat.add_sub_cancel] at CD
    obtain ⟨T1, hP⟩ := hC.ex
    have HP := Lib.hid hP
    have HX := Lib.hid hC.kx
    clear hC hl hR hP HC
    go_wp2_with fail
    refine CD.out.mono ?_
    rintro e w2 ⟨rfl, rfl⟩
    go_wp2_with fail
    go_ret2
    exact ⟨T1, rfl, HP.out, HX.out⟩
  · have hV : distV A B = .tuple #[.int .i64 0, errV 9] := if_neg hD
    rw [hV]
    simp only [if_neg hD] at C
    have e9 : errV 9 = .iface 43 (.int .i64 9) := rfl
    rw [e9] at C ⊢
    have HC := Lib.hid C
    clear C hp ha hb hV e9
    go_enter Tryz.func12, Tryz.ntmps12
    go_wp2_with fail
    refine HC.out.mono ?_
    rintro e w1 ⟨rfl, ⟨T1, hP⟩, hX⟩
    have HP := Lib.hid hP
    have HX := Lib.hid hX
    clear hP hX HC
    go_wp2_with fail
    go_ret2
    exact ⟨T1, rfl, HP.out, HX.out⟩

set_option maxRecDepth 100000 in
set_option maxHeartbeats 4000000 in
theorem df_Ratio {B0 : Nat} {w : World} {pp tp p mb : Nat} {most : Int} {L : List Ent} {T : List KRow} {a b : Int} {A B : List Int} (hp : Pq B0 w pp tp p mb most L T) (ha : SigOk L a) (hb : SigOk L b) (eA : txt L a = A) (eB : txt L b = B) (hA : A.length ≤ 300) (hB : B.length ≤ 300) :
    Calls Tryz.prog 14 #[.pointer (some ⟨pp, 0, none⟩), .int .i64 a, .int .i64 b] w (KyPost B0 w pp tp p mb most L (ratioV A B)) := by
  have C := df_compare hp ha hb eA eB hA hB
  unfold CqPost at C
  have hgap := ed_gap A B
  rw [← edp_all] at hgap
  by_cases hD : edp A B 0 0 ≤ 256
  · have hV : ratioV A B = .tuple #[.int .i64 (((A.length : Int) + B.length - (edp A B 0 0 : Nat)) / 2), .nilIface] := if_pos hD
    rw [hV]
    simp only [if_pos hD] at C
    have HC := Lib.hid C
    clear C hp ha hb
    generalize edp A B 0 0 = D at *
    have q1 : IntKind.i64.wrap ((A.length : Int) + (B.length : Int)) = (A.length : Int) + (B.length : Int) := wrapI (by omega) (by omega)
    have q2 : IntKind.i64.wrap ((A.length : Int) + (B.length : Int) - (D : Int)) = (A.length : Int) + (B.length : Int) - (D : Int) := wrapI (by omega) (by omega)
    have q3 : (0 : Int) ≤ (A.length : Int) + (B.length : Int) - (D : Int) := by omega
    have Q4 : Hid (IntKind.i64.wrap (((A.length : Int) + (B.length : Int) - (D : Int)).tdiv 2) = ((A.length : Int) + (B.length : Int) - (D : Int)) / 2) := by
      show _ = _
      rw [Int.tdiv_eq_ediv_of_nonneg q3]
      exact wrapI (by omega) (by omega)
    clear hV
    go_enter Tryz.func14, Tryz.ntmps14
    go_wp2_with fail
    refine HC.out.mono ?_
    rintro e w1 ⟨tb, rs, v, rfl, hC, hl, hR⟩
    have CD := Lib.hid (fun W (hW : Fr0 w1 W) => df_distance (hC.tab.kept0 hW) (by omega) (by omega))
    rw [hl, Nat.add_sub_cancel] at CD
    obtain ⟨T1, hP⟩ := hC.ex
    have HP := Lib.hid hP
    have HX := Lib.hid hC.kx
    obtain ⟨c0, c1, c2, c3, c4, c5, lt, cf⟩ := cells6t hC.tab.box
    clear hC hl hR hP HC
    go_upto_region 4 with fail
    refine region_still (by kernel_rfl) (by kernel_rfl) ?_
    iterate 10 still_step
    still_call (CD.out _ (Fr0.refl w1).drew)
    iterate 4 still_step
    refine wpStill_nil ?_
    go_wp2_with fail
    go_ret2
    refine ⟨T1, ?_, HP.out.kept0 (Fr0.refl w1).drew, Ks.trans HX.out (Ks.of0 (Fr0.refl w1).drew)⟩
    exact congrArg (fun x => Ending.returned (.tuple #[.int .i64 x, .nilIface])) Q4.out
  · have hV : ratioV A B = .tuple #[.int .i64 0, errV 9] := if_neg hD
    rw [hV]
    simp only [if_neg hD] at C
    have e9 : errV 9 = .iface 43 (.int .i64 9) := rfl
    rw [e9] at C ⊢
    have HC := Lib.hid C
    clear C hp ha hb hV e9
    go_enter Tryz.func14, Tryz.ntmps14
    go_wp2_with fail
    refine HC.out.mono ?_
    rintro e w1 ⟨rfl, ⟨T1, hP⟩, hX⟩
    have HP := Lib.hid hP
    have HX := Lib.hid hX
    clear hP hX HC
    go_wp2_with fail
    go_ret2
    exact ⟨T1, rfl, HP.out, HX.out⟩

end Go.Proofs.YtodmpcnpedpheaaGreatDoor

/- The walks of diff.compare, Distance, Of, Ratio where they refuse. -/
set_option linter.unusedSimpArgs false
set_option linter.unusedVariables false
namespace Go.Proofs.YtodmpcnpedpheaaGreatDoor
open Go.RowKit

/-- What compare answers where it refuses. -/
def CePost (B0 : Nat) (w : World) (pp tp p mb : Nat) (most : Int) (L : List Ent) (n : Int) (e : Ending) (w' : World) : Prop :=
  e = .returned (.tuple #[.pointer none, .iface 43 (.int .i64 n)]) ∧ (∃ T, Pq B0 w' pp tp p mb most L T) ∧ Kx B0 mb w w'

/-- An ID that is no signature rule. -/
def noSig (L : List Ent) (id : Int) : Prop := id ≠ 0 ∧ klev L id < 0

theorem topV_no {L : List Ent} {id : Int} (h : noSig L id) : topV L id = .tuple #[.int .i64 0, .iface 43 (.int .i64 4)] := by
  unfold topV; rw [if_neg h.1, if_neg (by have := h.2; omega)]; rfl
theorem topV_yes {L : List Ent} {id : Int} (h : ¬ noSig L id) : ∃ x : Int, topV L id = .tuple #[.int .i64 x, .nilIface] := by
  unfold topV
  by_cases h0 : id = 0
  · rw [if_pos h0]; exact ⟨0, rfl⟩
  · rw [if_neg h0, if_pos (by unfold noSig at h; have : ¬ klev L id < 0 := fun c => h ⟨h0, c⟩; omega)]; exact ⟨_, rfl⟩

theorem sto_Weight_no {B : Nat} {w : World} {p mb : Nat} {most : Int} {L : List Ent} (h : Sto B w p mb most L) (id : Int) (hk : ¬ isKnown L id) :
    Calls Tryz.prog 58 #[.pointer (some ⟨p, 0, none⟩), .int .i64 id] w fun e w' => e = .returned (.tuple #[.agg #[.int .i64 0, .int .i64 0, .int .i64 0, .int .i64 0, .int .u64 0, .int .u64 0], .iface 43 (.int .i64 1)]) ∧ Fr0 w w' := by
  obtain ⟨sv, hS, _⟩ := h; exact st_Weight_no hS id hk

set_option maxRecDepth 100000 in
set_option maxHeartbeats 4000000 in
theorem df_compare_nil (w : World) (a b : Int) :
    Calls Tryz.prog 33 #[.pointer none, .int .i64 a, .int .i64 b] w fun e w' => e = .returned (.tuple #[.pointer none, .iface 43 (.int .i64 5)]) ∧ Fr0 w w' := by
  go_enter Tryz.func33, Tryz.ntmps33
  go_wp2_with fail
  go_ret2
  exact ⟨rfl, Fr0.refl w⟩

set_option maxRecDepth 100000 in
set_option maxHeartbeats 4000000 in
theorem df_compare_una {B0 : Nat} {w : World} {pp tp p mb : Nat} {most : Int} {L : List Ent} {T : List KRow} {a b : Int} (hp : Pq B0 w pp tp p mb most L T) (ha : ¬ isKnown L a) :
    Calls Tryz.prog 33 #[.pointer (some ⟨pp, 0, none⟩), .int .i64 a, .int .i64 b] w (CePost B0 w pp tp p mb most L 1) := by
  have HP := Lib.hid hp
  have CST := Lib.hid (fun W (hW : Fr0 w W) => sig_Store (hp.kept0 hW))
  have CWA := Lib.hid (fun W (hW : Fr0 w W) => sto_Weight_no (hp.kept0 hW).st a ha)
  clear hp ha
  go_enter Tryz.func33, Tryz.ntmps33
  go_wp2_with fail
  refine (CST.out _ (Fr0.refl w)).mono ?_
  rintro e w1 ⟨rfl, rfl⟩
  go_wp2_with fail
  refine (CST.out _ (Fr0.refl w)).mono ?_
  rintro e w1 ⟨rfl, rfl⟩
  go_wp2_with fail
  refine (CWA.out _ (Fr0.refl w)).mono ?_
  rintro e w1 ⟨rfl, f1⟩
  go_wp2_with fail
  go_ret2
  exact ⟨rfl, ⟨T, HP.out.kept0 (f1.alloc _)⟩, Ks.of0 (f1.alloc _)⟩

set_option maxRecDepth 100000 in
set_option maxHeartbeats 4000000 in
theorem df_compare_unb {B0 : Nat} {w : World} {pp tp p mb : Nat} {most : Int} {L : List Ent} {T : List KRow} {a b : Int} (hp : Pq B0 w pp tp p mb most L T) (ha : isKnown L a) (hb : ¬ isKnown L b) :
    Calls Tryz.prog 33 #[.pointer (some ⟨pp, 0, none⟩), .int .i64 a, .int .i64 b] w (CePost B0 w pp tp p mb most L 1) := by
  have HP := Lib.hid hp
  have CST := Lib.hid (fun W (hW : Fr0 w W) => sig_Store (hp.kept0 hW))
  have CWA := Lib.hid (fun W (hW : Fr0 w W) => sto_Weight (hp.kept0 hW).st a ha)
  have CWB := Lib.hid (fun W (hW : Fr0 w W) => sto_Weight_no (hp.kept0 hW).st b hb)
  clear hp ha hb
  generalize (entAt L a).wt = wa at *
  go_enter Tryz.func33, Tryz.ntmps33
  go_wp2_with fail
  refine (CST.out _ (Fr0.refl w)).mono ?_
  rintro e w1 ⟨rfl, rfl⟩
  go_wp2_with fail
  refine (CST.out _ (Fr0.refl w)).mono ?_
  rintro e w1 ⟨rfl, rfl⟩
  go_wp2_with fail
  refine (CWA.out _ (Fr0.refl w)).mono ?_
  rintro e w1 ⟨rfl, f1⟩
  go_wp2_with fail
  have F2 := f1.alloc (.cells #[.int .i64 wa.len, .int .i64 wa.lines, .int .i64 wa.head, .int .i64 wa.tail, .int .u64 wa.val, .int .u64 wa.scale] 126 (0, 0))
  generalize w1.alloc (.cells #[.int .i64 wa.len, .int .i64 wa.lines, .int .i64 wa.head, .int .i64 wa.tail, .int .u64 wa.val, .int .u64 wa.scale] 126 (0, 0)) = W2 at *
  refine (CST.out _ F2).mono ?_
  rintro e w3 ⟨rfl, rfl⟩
  go_wp2_with fail
  refine (CWB.out _ F2).mono ?_
  rintro e w3 ⟨rfl, f3⟩
  go_wp2_with fail
  go_ret2
  exact ⟨rfl, ⟨T, HP.out.kept0 ((F2.trans f3).alloc _)⟩, Ks.of0 ((F2.trans f3).alloc _)⟩

set_option maxRecDepth 100000 in
set_option maxHeartbeats 4000000 in
theorem df_compare_form {B0 : Nat} {w : World} {pp tp p mb : Nat} {most : Int} {L : List Ent} {T : List KRow} {a b : Int} (hp : Pq B0 w pp tp p mb most L T) (ha : isKnown L a) (hb : isKnown L b) (hn : noSig L a ∨ noSig L b) :
    Calls Tryz.prog 33 #[.pointer (some ⟨pp, 0, none⟩), .int .i64 a, .int .i64 b] w (CePost B0 w pp tp p mb most L 4) := by
  have HP := Lib.hid hp
  have CST := Lib.hid (fun W (hW : Fr0 w W) => sig_Store (hp.kept0 hW))
  have CWA := Lib.hid (fun W (hW : Fr0 w W) => sto_Weight (hp.kept0 hW).st a ha)
  have CWB := Lib.hid (fun W (hW : Fr0 w W) => sto_Weight (hp.kept0 hW).st b hb)
  clear hp
  generalize (entAt L a).wt = wa at *
  generalize (entAt L b).wt = wb at *
  go_enter Tryz.func33, Tryz.ntmps33
  go_wp2_with fail
  refine (CST.out _ (Fr0.refl w)).mono ?_
  rintro e w1 ⟨rfl, rfl⟩
  go_wp2_with fail
  refine (CST.out _ (Fr0.refl w)).mono ?_
  rintro e w1 ⟨rfl, rfl⟩
  go_wp2_with fail
  refine (CWA.out _ (Fr0.refl w)).mono ?_
  rintro e w1 ⟨rfl, f1⟩
  go_wp2_with fail
  have F2 : Fr0 w (w1.alloc (.cells #[.int .i64 wa.len, .int .i64 wa.lines, .int .i64 wa.head, .int .i64 wa.tail, .int .u64 wa.val, .int .u64 wa.scale] 126 (0, 0))) := f1.alloc _
  have b2 := alloc_at w1 (.cells #[.int .i64 wa.len, .int .i64 wa.lines, .int .i64 wa.head, .int .i64 wa.tail, .int .u64 wa.val, .int .u64 wa.scale] 126 (0, 0)) w1.heap.size rfl
  generalize w1.alloc (.cells #[.int .i64 wa.len, .int .i64 wa.lines, .int .i64 wa.head, .int .i64 wa.tail, .int .u64 wa.val, .int .u64 wa.scale] 126 (0, 0)) = W2 at *
  generalize w1.heap.size = KA at *
  refine (CST.out _ F2).mono ?_
  rintro e w3 ⟨rfl, rfl⟩
  go_wp2_with fail
  refine (CWB.out _ F2).mono ?_
  rintro e w3 ⟨rfl, f3⟩
  go_upto_region 9 with fail
  have F4 : Fr0 w (w3.alloc (.cells #[.int .i64 wb.len, .int .i64 wb.lines, .int .i64 wb.head, .int .i64 wb.tail, .int .u64 wb.val, .int .u64 wb.scale] 126 (0, 0))) := (F2.trans f3).alloc _
  have b4 := alloc_at w3 (.cells #[.int .i64 wb.len, .int .i64 wb.lines, .int .i64 wb.head, .int .i64 wb.tail, .int .u64 wb.val, .int .u64 wb.scale] 126 (0, 0)) w3.heap.size rfl
  have b3 := (f3.alloc (.cells #[.int .i64 wb.len, .int .i64 wb.lines, .int .i64 wb.head, .int .i64 wb.tail, .int .u64 wb.val, .int .u64 wb.scale] 126 (0, 0))).kept b2
  generalize w3.alloc (.cells #[.int .i64 wb.len, .int .i64 wb.lines, .int .i64 wb.head, .int .i64 wb.tail, .int .u64 wb.val, .int .u64 wb.scale] 126 (0, 0)) = W4 at *
  generalize w3.heap.size = KB at *
  obtain ⟨c0, _, _, _, _, _, lc, _⟩ := cells6t b3
  obtain ⟨d0, _, _, _, _, _, ld, _⟩ := cells6t b4
  have HF4 := Lib.hid F4
  clear f1 f3 F2 b2 b3 b4 CST CWA CWB
  go_wp2_with fail
  have F5 : Fr0 w ((W4.alloc (.cells #[.pointer (some ⟨pp, 0, none⟩), .int .i64 a, .int .i64 b, .int .i64 wa.len, .int .i64 wb.len, .slice none 0 0] 99 (0, 0))).alloc (.cells #[.int .i64 a, .int .i64 b] 38 (0, 0))) := (HF4.out.alloc _).alloc _
  have HP5 := Lib.hid (HP.out.kept0 F5)
  have HK5 : Hid (Kx B0 mb w _) := Lib.hid (Ks.of0 F5)
  have HSB := Lib.hid (alloc2_1 W4 (.cells #[.pointer (some ⟨pp, 0, none⟩), .int .i64 a, .int .i64 b, .int .i64 wa.len, .int .i64 wb.len, .slice none 0 0] 99 (0, 0)) (.cells #[.int .i64 a, .int .i64 b] 38 (0, 0)))
  generalize (W4.alloc (.cells #[.pointer (some ⟨pp, 0, none⟩), .int .i64 a, .int .i64 b, .int .i64 wa.len, .int .i64 wb.len, .slice none 0 0] 99 (0, 0))).alloc (.cells #[.int .i64 a, .int .i64 b] 38 (0, 0)) = W5 at *
  generalize W4.heap.size = tb at *
  have CA := Lib.hid (fun W T' (hW : Pq B0 W pp tp p mb most L T') => sig_Top hW a ha)
  have CB := Lib.hid (fun W T' (hW : Pq B0 W pp tp p mb most L T') => sig_Top hW b hb)
  have HN := Lib.hid hn
  clear F5 HF4 HP c0 lc d0 ld ha hb hn
  go_loopg [60] 2 (fun gk v wr => ((v = .int .i64 0 ∧ gk = 2) ∨ (v = .int .i64 1 ∧ gk = 1 ∧ Hid (¬ noSig L a))) ∧ (∃ T', Pq B0 wr pp tp p mb most L T') ∧ Kx B0 mb w wr ∧ wr.heap[tb + 1]? = some (Obj.cells #[.int .i64 a, .int .i64 b] 38 (0, 0)))
  case atStart => exact ⟨.inl ⟨rfl, rfl⟩, ⟨T, HP5.out⟩, HK5.out, HSB.out⟩
  case round =>
    clear HSB HP5 HK5
    obtain ⟨hv, ⟨T6, hP6⟩, hK6, hS⟩ := hrel
    have HK6 := Lib.hid hK6
    have HSB := Lib.hid hS
    obtain ⟨s0, s1, sf, ls⟩ := cells2 hS
    clear hK6 hS
    rcases hv with ⟨rfl, rfl⟩ | ⟨rfl, rfl, hna⟩
    · have C := CA.out _ _ hP6
      clear CA hP6
      by_cases c : noSig L a
      · rw [topV_no c] at C
        have C := Lib.hid C
        clear c
        go_wp2_with fail
        refine C.out.mono ?_
        rintro e w6 ⟨T7, rfl, hp7, hx7⟩
        have HP7 := Lib.hid hp7
        have HK7 := Lib.hid (Ks.trans HK6.out hx7)
        clear hp7 hx7
        go_wp2_with fail
        go_ret2
        exact ⟨rfl, ⟨T7, HP7.out⟩, HK7.out⟩
      · obtain ⟨xa, ea⟩ := topV_yes c
        rw [ea] at C
        have C := Lib.hid C
        have HC := Lib.hid c
        clear c ea
        go_wp2_with fail
        refine C.out.mono ?_
        rintro e w6 ⟨T7, rfl, hp7, hx7⟩
        have HP7 := Lib.hid hp7
        have HS7 := Lib.hid (hx7.cells _ _ _ _ HSB.out (by decide) id)
        have HK7 := Lib.hid (Ks.trans HK6.out hx7)
        clear hp7 hx7
        go_wp2_with fail
        go_roundg 1
        case measure => omega
        case rel => exact ⟨.inr ⟨rfl, rfl, HC⟩, ⟨T7, HP7.out⟩, HK7.out, HS7.out⟩
    · have C := CB.out _ _ hP6
      rw [topV_no (HN.out.resolve_left hna.out)] at C
      have C := Lib.hid C
      clear CB hP6 HN
      go_wp2_with fail
      refine C.out.mono ?_
      rintro e w6 ⟨T7, rfl, hp7, hx7⟩
      have HP7 := Lib.hid hp7
      have HK7 := Lib.hid (Ks.trans HK6.out hx7)
      clear hp7 hx7
      go_wp2_with fail
      go_ret2
      exact ⟨rfl, ⟨T7, HP7.out⟩, HK7.out⟩

/-- What the three functions answer where compare refuses. -/
def Ce3 (B0 : Nat) (w : World) (pp tp p mb : Nat) (most : Int) (L : List Ent) (v : Value) (n : Int) (e : Ending) (w' : World) : Prop :=
  e = .returned (.tuple #[v, .iface 43 (.int .i64 n)]) ∧ (∃ T, Pq B0 w' pp tp p mb most L T) ∧ Kx B0 mb w w'

section
variable {B0 : Nat} {w : World} {pp tp p mb : Nat} {most : Int} {L : List Ent} {a b n : Int}

set_option maxRecDepth 100000 in
set_option maxHeartbeats 4000000 in
theorem df_Distance_no (C : Calls Tryz.prog 33 #[.pointer (some ⟨pp, 0, none⟩), .int .i64 a, .int .i64 b] w (CePost B0 w pp tp p mb most L n)) :
    Calls Tryz.prog 12 #[.pointer (some ⟨pp, 0, none⟩), .int .i64 a, .int .i64 b] w (Ce3 B0 w pp tp p mb most L (.int .i64 0) n) := by
  have HC := Lib.hid C
  clear C
  go_enter Tryz.func12, Tryz.ntmps12
  go_wp2_with fail
  refine HC.out.mono ?_
  rintro e w1 ⟨rfl, hP, hX⟩
  go_wp2_with fail
  go_ret2
  exact ⟨rfl, hP, hX⟩

set_option maxRecDepth 100000 in
set_option maxHeartbeats 4000000 in
theorem df_Ratio_no (C : Calls Tryz.prog 33 #[.pointer (some ⟨pp, 0, none⟩), .int .i64 a, .int .i64 b] w (CePost B0 w pp tp p mb most L n)) :
    Calls Tryz.prog 14 #[.pointer (some ⟨pp, 0, none⟩), .int .i64 a, .int .i64 b] w (Ce3 B0 w pp tp p mb most L (.int .i64 0) n) := by
  have HC := Lib.hid C
  clear C
  go_enter Tryz.func14, Tryz.ntmps14
  go_wp2_with fail
  refine HC.out.mono ?_
  rintro e w1 ⟨rfl, hP, hX⟩
  go_wp2_with fail
  go_ret2
  exact ⟨rfl, hP, hX⟩

set_option maxRecDepth 100000 in
set_option maxHeartbeats 4000000 in
theorem df_Of_no (C : Calls Tryz.prog 33 #[.pointer (some ⟨pp, 0, none⟩), .int .i64 a, .int .i64 b] w (CePost B0 w pp tp p mb most L n)) :
    Calls Tryz.prog 13 #[.pointer (some ⟨pp, 0, none⟩), .int .i64 a, .int .i64 b] w (Ce3 B0 w pp tp p mb most L (.slice none 0 0) n) := by
  have HC := Lib.hid C
  clear C
  go_enter Tryz.func13, Tryz.ntmps13
  go_wp2_with fail
  refine HC.out.mono ?_
  rintro e w1 ⟨rfl, hP, hX⟩
  go_wp2_with fail
  go_ret2
  exact ⟨rfl, hP, hX⟩
end

set_option maxRecDepth 100000 in
set_option maxHeartbeats 4000000 in
theorem df_nil (w : World) (a b : Int) :
    (Calls Tryz.prog 12 #[.pointer none, .int .i64 a, .int .i64 b] w fun e w' => e = .returned (.tuple #[.int .i64 0, .iface 43 (.int .i64 5)]) ∧ Fr0 w w') ∧
    (Calls Tryz.prog 14 #[.pointer none, .int .i64 a, .int .i64 b] w fun e w' => e = .returned (.tuple #[.int .i64 0, .iface 43 (.int .i64 5)]) ∧ Fr0 w w') ∧
    (Calls Tryz.prog 13 #[.pointer none, .int .i64 a, .int .i64 b] w fun e w' => e = .returned (.tuple #[.slice none 0 0, .iface 43 (.int .i64 5)]) ∧ Fr0 w w') := by
  have C := Lib.hid (df_compare_nil w a b)
  refine ⟨?_, ?_, ?_⟩
  · go_enter Tryz.func12, Tryz.ntmps12
    go_wp2_with fail
    refine C.out.mono ?_
    rintro e w1 ⟨rfl, hf⟩
    go_wp2_with fail
    go_ret2
    exact ⟨rfl, hf⟩
  · go_enter Tryz.func14, Tryz.ntmps14
    go_wp2_with fail
    refine C.out.mono ?_
    rintro e w1 ⟨rfl, hf⟩
    go_wp2_with fail
    go_ret2
    exact ⟨rfl, hf⟩
  · go_enter Tryz.func13, Tryz.ntmps13
    go_wp2_with fail
    refine C.out.mono ?_
    rintro e w1 ⟨rfl, hf⟩
    go_wp2_with fail
    go_ret2
    exact ⟨rfl, hf⟩

end Go.Proofs.YtodmpcnpedpheaaGreatDoor

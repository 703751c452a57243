/- The walk of DiffMetric. -/
import Derived.Test.YtodmpcnpedpheaaDoorQPa2
set_option linter.unusedSimpArgs false
set_option linter.unusedVariables false
namespace Go.Proofs.YtodmpcnpedpheaaDoor
open Go.RowKit

theorem sbs_inj {s t : ByteArray} (h : sbs s = sbs t) : s = t := by rw [← str_sbs s, ← str_sbs t, h]

theorem distV_ok {A B : List Int} (h : A.length + B.length ≤ 256) : distV A B = .tuple #[.int .i64 (ed A B : Nat), .nilIface] := by
  have hg := ed_gap A B
  unfold distV
  rw [edp_all, if_pos (by omega)]

set_option maxRecDepth 100000 in
set_option maxHeartbeats 4000000 in
theorem law_DiffMetric {w : World} (hdeb : Deb w.heap.size w) (a b c : ByteArray) :
    Calls Tryd.prog 4 #[.string a, .string b, .string c] w fun e w' => e = .returned (.bool true) ∧ Fr0 w w' := by
  have CP := Lib.hid (law_Parser hdeb)
  clear hdeb
  go_enter Tryd.func4, Tryd.ntmps4
  go_wp2_with fail
  refine CP.out.mono ?_
  rintro e w1 ⟨pp, tp, p, mb, L, T, rfl, hp, hf, hl⟩
  have HP := Lib.hid hp
  have HF := Lib.hid hf
  clear hp hf CP
  go_wp2_with fail
  refine (law_cut a 100 (by omega) w1).mono ?_
  rintro e w2 ⟨ta, rfl, ea, rfl⟩
  go_wp2_with fail
  refine (law_cut b 100 (by omega) w1).mono ?_
  rintro e w2 ⟨tb, rfl, eb, rfl⟩
  go_wp2_with fail
  refine (law_cut c 50 (by omega) w1).mono ?_
  rintro e w2 ⟨tc, rfl, ec, rfl⟩
  have hla : ta.size ≤ 100 := by rw [← sbs_len, ea, List.length_take]; omega
  have hlb : tb.size ≤ 100 := by rw [← sbs_len, eb, List.length_take]; omega
  have hlc : tc.size ≤ 50 := by rw [← sbs_len, ec, List.length_take]; omega
  clear ea eb ec
  have C1 := Lib.hid (law_two HP.out ta tb (by omega) (by omega) (by omega) (by omega))
  have hd0 := HP.out.dok
  clear HP
  go_wp2_with fail
  refine C1.out.mono ?_
  rintro e w2 ⟨L2, T2, x, y, rfl, hp2, hk2, hg2, sx, sy, ex, ey⟩
  have hl2 := hg2.gr.len
  have HF2 := Lib.hid (Kx.all0 HF.out hk2)
  have hd2 := hp2.dok
  have C2 := Lib.hid (law_two hp2 tc ⟨#[]⟩ (by omega) (by decide) (by omega) (by omega))
  clear hp2 hk2 C1 hg2
  go_wp2_with fail
  refine C2.out.mono ?_
  rintro e w3 ⟨L3, T3, z, z2, rfl, hp3, hk3, hg3, sz, _, ez, _⟩
  have HF3 := Lib.hid (Kx.all0 HF2.out hk3)
  obtain ⟨sx3, ex3⟩ := sx.more hd2 hg3
  obtain ⟨sy3, ey3⟩ := sy.more hd2 hg3
  rw [ex] at ex3
  rw [ey] at ey3
  have lA := sbs_len ta
  have lB := sbs_len tb
  have lC := sbs_len tc
  have D1 : Hid (∀ W T', Pq w.heap.size W pp tp p mb 1048576 L3 T' → Calls Tryd.prog 11 #[.pointer (some ⟨pp, 0, none⟩), .int .i64 x, .int .i64 y] W (KyPost w.heap.size W pp tp p mb 1048576 L3 (.tuple #[.int .i64 (ed (sbs ta) (sbs tb) : Nat), .nilIface]))) := fun W T' hW => by
    have := df_Distance hW sx3 sy3 ex3 ey3 (by omega) (by omega)
    rw [distV_ok (by omega)] at this
    exact this
  have D2 : Hid (∀ W T', Pq w.heap.size W pp tp p mb 1048576 L3 T' → Calls Tryd.prog 11 #[.pointer (some ⟨pp, 0, none⟩), .int .i64 y, .int .i64 x] W (KyPost w.heap.size W pp tp p mb 1048576 L3 (.tuple #[.int .i64 (ed (sbs tb) (sbs ta) : Nat), .nilIface]))) := fun W T' hW => by
    have := df_Distance hW sy3 sx3 ey3 ex3 (by omega) (by omega)
    rw [distV_ok (by omega)] at this
    exact this
  have D3 : Hid (∀ W T', Pq w.heap.size W pp tp p mb 1048576 L3 T' → Calls Tryd.prog 11 #[.pointer (some ⟨pp, 0, none⟩), .int .i64 x, .int .i64 z] W (KyPost w.heap.size W pp tp p mb 1048576 L3 (.tuple #[.int .i64 (ed (sbs ta) (sbs tc) : Nat), .nilIface]))) := fun W T' hW => by
    have := df_Distance hW sx3 sz ex3 ez (by omega) (by omega)
    rw [distV_ok (by omega)] at this
    exact this
  have D4 : Hid (∀ W T', Pq w.heap.size W pp tp p mb 1048576 L3 T' → Calls Tryd.prog 11 #[.pointer (some ⟨pp, 0, none⟩), .int .i64 z, .int .i64 y] W (KyPost w.heap.size W pp tp p mb 1048576 L3 (.tuple #[.int .i64 (ed (sbs tc) (sbs tb) : Nat), .nilIface]))) := fun W T' hW => by
    have := df_Distance hW sz sy3 ez ey3 (by omega) (by omega)
    rw [distV_ok (by omega)] at this
    exact this
  have hsym := ed_symm (sbs tb) (sbs ta)
  have htri := ed_tri _ (sbs ta) (sbs tb) (sbs tc) (Nat.le_refl _)
  have hpar := ed_par (sbs ta) (sbs tb)
  have hgap := ed_gap (sbs ta) (sbs tb)
  have hg3' := ed_gap (sbs ta) (sbs tc)
  have hg4' := ed_gap (sbs tc) (sbs tb)
  have hzero : ed (sbs ta) (sbs tb) = 0 ↔ ta = tb := ⟨fun h => sbs_inj (ed_zero _ _ h), fun h => by rw [h]; exact ed_self _⟩
  rw [hsym] at D2
  rw [lA, lB] at hpar hgap
  rw [lA, lC] at hg3'
  rw [lC, lB] at hg4'
  generalize ed (sbs ta) (sbs tb) = n at *
  generalize ed (sbs ta) (sbs tc) = k at *
  generalize ed (sbs tc) (sbs tb) = l at *
  have C3 := Lib.hid (D1.out _ _ hp3)
  clear hp3 hk3 C2 hg3 sx sy sz sx3 sy3 ex ey ez ex3 ey3 D1 hsym lA lB lC HF HF2 hd0 hd2
  go_wp2_with fail
  refine C3.out.mono ?_
  rintro e w4 ⟨T4, rfl, hp4, hk4⟩
  have HF4 := Lib.hid (Kx.all0 HF3.out hk4)
  have C4 := Lib.hid (D2.out _ _ hp4)
  clear hp4 hk4 D2 HF3 C3
  go_wp2_with fail
  refine C4.out.mono ?_
  rintro e w5 ⟨T5, rfl, hp5, hk5⟩
  have HF5 := Lib.hid (Kx.all0 HF4.out hk5)
  have C5 := Lib.hid (D3.out _ _ hp5)
  clear hp5 hk5 D3 HF4 C4
  go_wp2_with fail
  refine C5.out.mono ?_
  rintro e w6 ⟨T6, rfl, hp6, hk6⟩
  have HF6 := Lib.hid (Kx.all0 HF5.out hk6)
  have C6 := Lib.hid (D4.out _ _ hp6)
  clear hp6 hk6 D4 HF5 C5
  go_wp2_with fail
  refine C6.out.mono ?_
  rintro e w7 ⟨T7, rfl, hp7, hk7⟩
  have HF7 := Lib.hid (Kx.all0 HF6.out hk7)
  clear hp7 hk7 HF6 C6
  obtain ⟨la, hla2⟩ : ∃ la, ta.size = la := ⟨_, rfl⟩
  obtain ⟨lb, hlb2⟩ : ∃ lb, tb.size = lb := ⟨_, rfl⟩
  rw [hla2] at hla hpar hgap hg3'
  rw [hlb2] at hlb hpar hgap hg4'
  obtain ⟨gap, hgp⟩ : ∃ gap : Nat, max la lb - min la lb = gap := ⟨_, rfl⟩
  have h1 : gap ≤ n := by omega
  have h2 : (n - gap) % 2 = 0 := by omega
  have hnb : n ≤ 200 := by omega
  have hkb : k ≤ 200 := by omega
  have hlb3 : l ≤ 200 := by omega
  have HZ := Lib.hid hzero
  have HGP := Lib.hid hgp
  have HS1 := Lib.hid hla2
  have HS2 := Lib.hid hlb2
  clear hzero hgp hpar hgap hg3' hg4' hlc
  go_upto_region 13 with fail
  go_cut [23] (fun u wx => u = .int .i64 (gap : Nat) ∧ w7 = wx)
  case first =>
    have hgp := HGP.out
    clear HZ HF7 HGP htri h1 h2 hnb hkb hlb3
    by_cases c1 : (lb : Int) ≤ (la : Int)
    · by_cases c2 : (la : Int) ≤ (lb : Int)
      · obtain rfl : gap = 0 := by omega
        obtain rfl : la = lb := by omega
        clear hgp
        go_wp2_with fail
        go_meet
        exact ⟨rfl, rfl⟩
      · have q : IntKind.i64.wrap ((la : Int) - (lb : Int)) = (gap : Int) := by rw [show (la : Int) - (lb : Int) = (gap : Int) by omega]; exact wrapI (by omega) (by omega)
        clear hgp
        go_wp2_with fail
        go_meet
        exact ⟨rfl, rfl⟩
    · have c2 : (la : Int) ≤ (lb : Int) := by omega
      have q : IntKind.i64.wrap ((lb : Int) - (la : Int)) = (gap : Int) := by rw [show (lb : Int) - (la : Int) = (gap : Int) by omega]; exact wrapI (by omega) (by omega)
      clear hgp
      go_wp2_with fail
      go_meet
      exact ⟨rfl, rfl⟩
  case rest =>
  obtain ⟨rfl, rfl⟩ := hcut
  clear HGP hla2 hlb2 HS1 HS2
  have q1 : IntKind.i64.wrap ((k : Int) + (l : Int)) = (k : Int) + (l : Int) := wrapI (by omega) (by omega)
  have q2 : (n : Int) ≤ (k : Int) + (l : Int) := by omega
  obtain ⟨dd, hdd⟩ : ∃ dd, n - gap = dd := ⟨_, rfl⟩
  have q4 : IntKind.i64.wrap ((n : Int) - (gap : Int)) = (dd : Int) := by rw [show (n : Int) - (gap : Int) = (dd : Int) by omega]; exact wrapI (by omega) (by omega)
  rw [hdd] at h2
  have q5 : (dd : Int).tmod 2 = 0 := by rw [Int.tmod_eq_emod_of_nonneg (by omega)]; omega
  clear hdd
  by_cases he : ta = tb
  · have hz := HZ.out.2 he
    have z1 : ((n : Int) == 0) = true := by rw [hz]; rfl
    subst he
    clear hz HZ
    go_wp2_with fail
    go_ret
    exact ⟨rfl, HF7.out⟩
  · have hz : n ≠ 0 := fun h => he (HZ.out.1 h)
    have z1 : ((n : Int) == 0) = false := beq_eq_false_iff_ne.2 (by omega)
    have z2 : (ta.toList == tb.toList) = false := beq_eq_false_iff_ne.2 (fun h => he (sbs_inj (by unfold sbs; rw [← ByteArray.toList_eq, ← ByteArray.toList_eq, h])))
    clear hz HZ
    go_wp2_with fail
    go_ret
    exact ⟨rfl, HF7.out⟩

end Go.Proofs.YtodmpcnpedpheaaDoor

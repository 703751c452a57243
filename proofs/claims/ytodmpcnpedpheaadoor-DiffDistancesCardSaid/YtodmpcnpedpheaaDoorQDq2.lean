/- The walk of table.step. -/
import Derived.Test.YtodmpcnpedpheaaDoorQPx5
set_option linter.unusedSimpArgs false
set_option linter.unusedVariables false
namespace Go.Proofs.YtodmpcnpedpheaaDoor
open Go.RowKit

theorem TabD.cell {base : Nat} {w : World} {tb pp : Nat} {a b n m : Int} {rs : List (RowD × Value)} {v : Value} (h : TabD base w tb pp a b n m rs v) (i : Nat) (hi : i < rs.length) :
    ∃ g c vi ci, v = .slice (some ⟨g, 0, none⟩) rs.length c ∧ rs[i].2 = .slice vi rs[i].1.frm.length ci ∧ w.cell? ⟨g, i * 2, none⟩ = some (.int .i64 rs[i].1.low) ∧ w.cell? ⟨g, i * 2 + 1, none⟩ = some (.slice vi rs[i].1.frm.length ci) ∧ g < w.heap.size := by
  have hr := h.row
  obtain ⟨vi, ci, hv⟩ := owns_form (h.each rs[i] (List.getElem_mem hi))
  rcases hr.2 with ⟨_, e⟩ | ⟨g, cap, cur, e, hb, hg, h1, h2, _⟩
  · omega
  · have hx : rs[i]? = some rs[i] := List.getElem?_eq_getElem hi
    have g0 := flat_get rwZ 2 rs (fun _ _ => rfl) i 0 (by omega) _ hx
    have g1 := flat_get rwZ 2 rs (fun _ _ => rfl) i 1 (by omega) _ hx
    have c0 := hr.cells (g := g) (by rw [e]; rfl) (i * 2 + 0) (.int .i64 rs[i].1.low) (by rw [g0]; rfl)
    have c1 := hr.cells (g := g) (by rw [e]; rfl) (i * 2 + 1) rs[i].2 (by rw [g1]; rfl)
    rw [hv] at c1
    exact ⟨g, cap, vi, ci, e, hv, by simpa only [Addr.add_lit, Nat.zero_add, Nat.add_zero] using c0, by simpa only [Addr.add_lit, Nat.zero_add] using c1, lt_of_block hg⟩

theorem rowF_bnd {A B : List Int} (hA : A.length ≤ 300) (hB : B.length ≤ 300) {e : Nat} (he : e ≤ 300) : (rowF A B e).frm.length ≤ 1000000 ∧ -1000000 ≤ (rowF A B e).low ∧ (rowF A B e).low ≤ 1000000 := by
  unfold rowF dlow dhigh
  dsimp only
  rw [List.length_map, List.length_range]
  omega

theorem cell_bnd {A B : List Int} (hA : A.length ≤ 300) {e : Nat} {d v : Int} (h : Cell A B e d v) : v = 1152921504606846977 ∨ (0 ≤ v ∧ v ≤ 300) := by
  rcases h with h | ⟨x, y, h1, h2, h3, h4, h5⟩
  · exact .inl h
  · exact .inr (by omega)

theorem x1_le (p : Int) : x1F p ≤ NONE := by unfold x1F; split <;> omega
theorem x2_le (p q d : Int) : x2F p q d ≤ NONE := by
  have := x1_le p
  unfold x2F; split <;> omega

set_option maxRecDepth 100000 in
set_option maxHeartbeats 4000000 in
theorem df_step0 {base : Nat} {w : World} {tb pp : Nat} {a b : Int} {A B : List Int} {v : Value} (h : TabD base w tb pp a b A.length B.length [] v) (hA : A.length ≤ 300) (hB : B.length ≤ 300) (d : Int) :
    Calls Tryd.prog 44 #[.pointer (some ⟨tb, 0, none⟩), .int .i64 d] w fun e w' => e = .returned (.int .i64 (preF A B 0 d)) ∧ Fr0 w w' := by
  obtain ⟨va, vc, rfl⟩ := owns_form h.row
  obtain ⟨c0, c1, c2, c3, c4, c5, lt, cf⟩ := cells6t h.box
  rw [List.length_nil] at c5
  have q1 : IntKind.i64.wrap ((A.length : Int) - (B.length : Int)) = (A.length : Int) - (B.length : Int) := wrapI (by omega) (by omega)
  have hP : preF A B 0 d = if d = (A.length : Int) - B.length then (A.length : Int) else 1152921504606846977 := rfl
  rw [hP]
  clear h hP
  generalize A.length = n at *
  generalize B.length = m at *
  by_cases hd : d = (n : Int) - m
  · rw [if_pos hd]
    have q2 : (d == (n : Int) - (m : Int)) = true := by rw [hd]; simp
    clear hd
    go_enter Tryd.func44, Tryd.ntmps44
    go_wp2_with fail
    go_quiet (fail)
    go_wp2_with fail
    go_ret
    exact ⟨rfl, (Fr0.refl w).drewN _⟩
  · rw [if_neg hd]
    have q2 : (d == (n : Int) - (m : Int)) = false := beq_eq_false_iff_ne.2 hd
    clear hd
    go_enter Tryd.func44, Tryd.ntmps44
    go_wp2_with fail
    go_quiet (fail)
    go_wp2_with fail
    go_ret
    exact ⟨rfl, (Fr0.refl w).drewN _⟩

set_option maxRecDepth 100000 in
set_option maxHeartbeats 4000000 in
theorem df_step1 {base : Nat} {w : World} {tb pp : Nat} {a b : Int} {A B : List Int} {rs : List (RowD × Value)} {v : Value} (h : TabD base w tb pp a b A.length B.length rs v) (hR : ∀ i (hi : i < rs.length), rs[i].1 = rowF A B i) (hA : A.length ≤ 300) (hB : B.length ≤ 300) (k : Nat) (hk : rs.length = k + 1) (he : rs.length ≤ 257) (d : Int) (hd : -1000 ≤ d) (hd2 : d ≤ 1000) :
    Calls Tryd.prog 44 #[.pointer (some ⟨tb, 0, none⟩), .int .i64 d] w fun e w' => e = .returned (.int .i64 (preF A B rs.length d)) ∧ Fr0 w w' := by
  have hn : A.length ≤ 1152921504606846976 := by omega
  obtain ⟨g, gc, vi, ci, rfl, hv2, x0, x1, lg⟩ := h.cell k (by omega)
  have hrk := hR k (by omega)
  have heach := h.each _ (List.getElem_mem (show k < rs.length by omega))
  rw [hv2] at heach
  rw [hrk] at x0 x1 heach
  obtain ⟨b1, b2, b3⟩ := rowF_bnd hA hB (e := k) (by omega)
  obtain ⟨c0, c1, c2, c3, c4, c5, lt, cf⟩ := cells6t h.box
  obtain ⟨P, hP⟩ : ∃ P, atF A B k (d + 1) = P := ⟨_, rfl⟩
  obtain ⟨Q, hQ⟩ : ∃ Q, atF A B k (d - 1) = Q := ⟨_, rfl⟩
  have CP : Hid (∀ W, Fr0 w W → Calls Tryd.prog 31 #[.agg #[.int .i64 (rowF A B k).low, .slice vi (rowF A B k).frm.length ci], .int .i64 (d + 1)] W fun e w' => e = .returned (.int .i64 P) ∧ Fr0 W w') := fun W hW => by
    have := df_at (hW.owns heach) b1 b2 b3 (d + 1) (by omega) (by omega)
    rw [rowF_at, hP] at this
    exact this
  have CQ : Hid (∀ W, Fr0 w W → Calls Tryd.prog 31 #[.agg #[.int .i64 (rowF A B k).low, .slice vi (rowF A B k).frm.length ci], .int .i64 (d - 1)] W fun e w' => e = .returned (.int .i64 Q) ∧ Fr0 W w') := fun W hW => by
    have := df_at (hW.owns heach) b1 b2 b3 (d - 1) (by omega) (by omega)
    rw [rowF_at, hQ] at this
    exact this
  have hPb := cell_bnd hA (atF_cell hn k (d + 1) (B := B))
  have hQb := cell_bnd hA (atF_cell hn k (d - 1) (B := B))
  rw [hP] at hPb
  rw [hQ] at hQb
  have HH := Lib.hid h
  have hkk : (rs.length : Int) = (k : Int) + 1 := by omega
  rw [hk] at c5 ⊢
  have q1 : IntKind.i64.wrap ((k : Int) + 1 - 1) = (k : Int) := by rw [show (k : Int) + 1 - 1 = (k : Int) by omega]; exact wrapI (by omega) (by omega)
  have q2 : (0 : Int) ≤ (k : Int) := by omega
  have q3 : (k : Int) < (k : Int) + 1 := by omega
  have q4 : ((k : Int) + 1 == 0) = false := beq_eq_false_iff_ne.2 (by omega)
  have q5 : IntKind.i64.wrap (d + 1) = d + 1 := wrapI (by omega) (by omega)
  have q6 : IntKind.i64.wrap (d - 1) = d - 1 := wrapI (by omega) (by omega)
  have hpre : Hid (preF A B (k + 1) d = if min (x2F P Q d) (if k = 0 then NONE else atF A B (k - 1) d) < max d 0 then NONE else min (x2F P Q d) (if k = 0 then NONE else atF A B (k - 1) d)) := by
    show _ = _
    cases k with
    | zero => rw [if_pos rfl, ← hP, ← hQ]; rfl
    | succ k =>
      have e : (if k + 1 = 0 then NONE else atF A B (k + 1 - 1) d) = atF A B k d := by rw [if_neg (by omega)]; rfl
      rw [e, ← hP, ← hQ]; rfl
  obtain ⟨X1, hX1⟩ : ∃ X1, x1F P = X1 := ⟨_, rfl⟩
  have hX1b : X1 ≤ 1152921504606846977 ∧ -1 ≤ X1 := by rw [← hX1]; unfold x1F NONE; split <;> omega
  obtain ⟨X2, hX2⟩ : ∃ X2, x2F P Q d = X2 := ⟨_, rfl⟩
  have hX2' : X2 = if Q ≠ 1152921504606846977 ∧ d - 1 < Q then min X1 Q else X1 := by rw [← hX2, ← hX1]; rfl
  have hX2b : X2 ≤ 1152921504606846977 ∧ -1 ≤ X2 := by rw [hX2']; split <;> omega
  obtain ⟨R, hRR⟩ : ∃ R, (if k = 0 then NONE else atF A B (k - 1) d) = R := ⟨_, rfl⟩
  rw [hX2, hRR] at hpre
  have hRb : R = 1152921504606846977 ∨ (0 ≤ R ∧ R ≤ 300) := by
    rw [← hRR]
    by_cases c : k = 0
    · rw [if_pos c]; exact .inl rfl
    · rw [if_neg c]; exact cell_bnd hA (atF_cell hn _ _)
  obtain ⟨V, hV⟩ : ∃ V, min X2 R = V := ⟨_, rfl⟩
  rw [hV] at hpre
  rw [hpre.out]
  obtain ⟨Y, hY⟩ : ∃ Y, (if V < max d 0 then NONE else V) = Y := ⟨_, rfl⟩
  rw [hY]
  have HY := Lib.hid hY
  clear hY
  have HV := Lib.hid hV
  have HRR := Lib.hid hRR
  have HX1 : Hid (x1F P = X1) := hX1
  have HX2 := Lib.hid hX2'
  clear hV hRR hX1 hX2' hX2 hpre
  clear h hv2 heach b1 b2 b3 hP hQ hrk
  generalize (rowF A B k).low = low at *
  generalize (rowF A B k).frm.length = fl at *
  go_enter Tryd.func44, Tryd.ntmps44
  go_wp2_with fail
  have b8 := alloc_at w (.cells #[.int .i64 low, .slice vi fl ci] 88 (0, 0)) w.heap.size rfl
  have F1 : Fr0 w (w.alloc (.cells #[.int .i64 low, .slice vi fl ci] 88 (0, 0))) := (Fr0.refl w).alloc _
  generalize w.alloc (.cells #[.int .i64 low, .slice vi fl ci] 88 (0, 0)) = W1 at *
  have HB8 := Lib.hid b8
  have CQ1 := Lib.hid (fun W (hW : Fr0 W1 W) => CQ.out W (F1.trans hW))
  refine (CP.out W1 F1).mono ?_
  rintro e w2 ⟨rfl, f2⟩
  have CQ2 := Lib.hid (CQ1.out w2 f2)
  have b9 := f2.kept HB8.out
  have F2 := Lib.hid (F1.trans f2)
  clear b8 F1 f2 CP CQ CQ1 HB8 c0 c1 c2 c3 c4 c5 x0 x1 lg lt cf
  obtain ⟨e0, e1, ef, le⟩ := cells2 b9
  clear b9
  obtain ⟨cp, hcp⟩ : ∃ cp : Bool, decide (P ≠ 1152921504606846977 ∧ 0 < P) = cp := ⟨_, rfl⟩
  have HCP := Lib.hid hcp
  clear hcp
  go_upto_region 9 with fail
  go_cut [49] (fun v wx => v = .bool cp ∧ w2 = wx)
  case first =>
    clear CQ2 e0 e1 ef le HH hR HX2 HRR HV hkk q1 q2 q3 q4 q5 q6 hX2b hRb hQb
    rcases hPb with rfl | ⟨p0, p1⟩
    · have : cp = false := HCP.out.symm
      subst this
      go_wp2_with fail
      go_meet
      exact ⟨rfl, rfl⟩
    · have z1 : (P != 1152921504606846977) = true := bne_iff_ne.2 (by omega)
      by_cases hp : 0 < P
      · have z2 : decide (0 < P) = true := decide_eq_true hp
        have : cp = true := by rw [← HCP.out]; exact decide_eq_true ⟨by omega, hp⟩
        subst this
        go_wp2_with fail
        go_meet
        exact ⟨rfl, rfl⟩
      · have z2 : decide (0 < P) = false := decide_eq_false hp
        have : cp = false := by rw [← HCP.out]; exact decide_eq_false (fun h => hp h.2)
        subst this
        go_wp2_with fail
        go_meet
        exact ⟨rfl, rfl⟩
  case rest =>
  obtain ⟨rfl, rfl⟩ := hcut
  go_upto_if 49 with fail
  go_cut [6] (fun v wx => v = .int .i64 X1 ∧ w2 = wx)
  case first =>
    clear CQ2 e0 e1 ef le HH hR HX2 HRR HV hkk q1 q2 q3 q4 q5 q6 hX2b hRb hQb
    cases cp with
    | true =>
      have hc := of_decide_eq_true HCP.out
      have z3 : IntKind.i64.wrap (P - 1) = P - 1 := wrapI (by omega) (by omega)
      have z4 : ¬ (1152921504606846977 ≤ P - 1) := by omega
      have : X1 = P - 1 := by rw [← HX1.out]; unfold x1F NONE; rw [if_pos hc]; omega
      subst this
      clear HX1 hc HCP
      go_wp2_with fail
      go_meet
      exact ⟨rfl, rfl⟩
    | false =>
      have hc := of_decide_eq_false HCP.out
      have : X1 = 1152921504606846977 := by rw [← HX1.out]; unfold x1F NONE; rw [if_neg hc]
      subst this
      clear HX1 hc HCP
      go_wp2_with fail
      go_meet
      exact ⟨rfl, rfl⟩
  case rest =>
  obtain ⟨rfl, rfl⟩ := hcut
  clear hPb HX1 HCP
  go_wp2_with fail
  refine CQ2.out.mono ?_
  rintro e w3 ⟨rfl, f3⟩
  have F3 := Lib.hid (F2.out.trans f3)
  clear f3 F2 CQ2 e0 e1 ef le
  obtain ⟨cq, hcq⟩ : ∃ cq : Bool, decide (Q ≠ 1152921504606846977 ∧ d - 1 < Q) = cq := ⟨_, rfl⟩
  have HCQ := Lib.hid hcq
  clear hcq
  go_upto_region 12 with fail
  go_cut [65] (fun v wx => v = .bool cq ∧ w3 = wx)
  case first =>
    clear HH hR HX2 HRR HV hkk q1 q2 q3 q4 q5 hX2b hRb
    rcases hQb with rfl | ⟨p0, p1⟩
    · have : cq = false := HCQ.out.symm
      subst this
      go_wp2_with fail
      go_meet
      exact ⟨rfl, rfl⟩
    · have z1 : (Q != 1152921504606846977) = true := bne_iff_ne.2 (by omega)
      by_cases hp : d - 1 < Q
      · have z2 : decide (d - 1 < Q) = true := decide_eq_true hp
        have : cq = true := by rw [← HCQ.out]; exact decide_eq_true ⟨by omega, hp⟩
        subst this
        go_wp2_with fail
        go_meet
        exact ⟨rfl, rfl⟩
      · have z2 : decide (d - 1 < Q) = false := decide_eq_false hp
        have : cq = false := by rw [← HCQ.out]; exact decide_eq_false (fun h => hp h.2)
        subst this
        go_wp2_with fail
        go_meet
        exact ⟨rfl, rfl⟩
  case rest =>
  obtain ⟨rfl, rfl⟩ := hcut
  go_upto_if 65 with fail
  go_cut [6] (fun v wx => v = .int .i64 X2 ∧ w3 = wx)
  case first =>
    clear HH hR HRR HV hkk q1 q2 q3 q4 q5 q6 hX2b hRb
    cases cq with
    | true =>
      have hc := of_decide_eq_true HCQ.out
      by_cases hm : X1 ≤ Q
      · have : X2 = X1 := by rw [HX2.out, if_pos hc]; omega
        subst this
        clear HX2 hc HCQ
        go_wp2_with fail
        go_meet
        exact ⟨rfl, rfl⟩
      · have : X2 = Q := by rw [HX2.out, if_pos hc]; omega
        subst this
        clear HX2 hc HCQ
        go_wp2_with fail
        go_meet
        exact ⟨rfl, rfl⟩
    | false =>
      have hc := of_decide_eq_false HCQ.out
      have : X2 = X1 := by rw [HX2.out, if_neg hc]
      subst this
      clear HX2 hc HCQ
      go_wp2_with fail
      go_meet
      exact ⟨rfl, rfl⟩
  case rest =>
  obtain ⟨rfl, rfl⟩ := hcut
  clear hQb HX2 HCQ hX1b
  go_upto_if 70 with fail
  go_cut [6] (fun v wx => v = .int .i64 V ∧ Fr0 w wx)
  case first =>
    by_cases hk0 : k = 0
    · have z1 : decide ((1 : Int) < (k : Int) + 1) = false := decide_eq_false (by omega)
      have : V = X2 := by
        have h1 := HRR.out
        rw [if_pos hk0] at h1
        rw [← HV.out, ← h1]
        unfold NONE
        omega
      subst this
      clear HV HRR HH hR
      go_wp2_with fail
      go_meet
      exact ⟨rfl, F3.out⟩
    · have z1 : decide ((1 : Int) < (k : Int) + 1) = true := decide_eq_true (by omega)
      obtain ⟨g, gc, vi, ci, hgv, hv2, x0, x1, lg⟩ := (HH.out.kept0 F3.out).cell (k - 1) (by omega)
      obtain ⟨c0, c1, c2, c3, c4, c5, lt, cf⟩ := cells6t (HH.out.kept0 F3.out).box
      have hrk := hR (k - 1) (by omega)
      have heach := (HH.out.kept0 F3.out).each _ (List.getElem_mem (show k - 1 < rs.length by omega))
      rw [hv2] at heach
      rw [hrk] at x0 x1 heach
      obtain ⟨b1, b2, b3⟩ := rowF_bnd hA hB (e := k - 1) (by omega)
      have CR := df_at heach b1 b2 b3 d (by omega) (by omega)
      have hR2 := HRR.out
      rw [if_neg hk0] at hR2
      rw [rowF_at, hR2] at CR
      have CR2 := Lib.hid CR
      rw [hgv, hk] at c5
      rw [hk] at hgv
      have y1 : IntKind.i64.wrap ((k : Int) + 1 - 2) = ((k - 1 : Nat) : Int) := by rw [show (k : Int) + 1 - 2 = ((k - 1 : Nat) : Int) by omega]; exact wrapI (by omega) (by omega)
      have y2 : (0 : Int) ≤ ((k - 1 : Nat) : Int) := by omega
      have y3 : ((k - 1 : Nat) : Int) < (k : Int) + 1 := by omega
      clear HH hR hv2 heach CR hR2 b1 b2 b3 hrk hgv HRR
      generalize (rowF A B (k - 1)).low = low1 at *
      generalize (rowF A B (k - 1)).frm.length = fl1 at *
      generalize k - 1 = k1 at *
      by_cases hm : X2 ≤ R
      · have : V = X2 := by rw [← HV.out]; omega
        subst this
        clear HV
        go_wp2_with fail
        refine CR2.out.mono ?_
        rintro e w4 ⟨rfl, f4⟩
        have F4 := Lib.hid (F3.out.trans f4)
        clear f4
        go_wp2_with fail
        go_meet
        exact ⟨rfl, F4.out⟩
      · have : V = R := by rw [← HV.out]; omega
        subst this
        clear HV
        go_wp2_with fail
        refine CR2.out.mono ?_
        rintro e w4 ⟨rfl, f4⟩
        have F4 := Lib.hid (F3.out.trans f4)
        clear f4
        go_wp2_with fail
        go_meet
        exact ⟨rfl, F4.out⟩
  case rest =>
  obtain ⟨rfl, hF⟩ := hcut
  have HF := Lib.hid hF
  clear hF HV HRR HH F3 hR q1 q2 q3 q4 q5 q6 hX2b hRb
  by_cases hd0 : 0 ≤ d
  · by_cases hv : V < d
    · have : Y = 1152921504606846977 := by rw [← HY.out, if_pos (by omega)]; rfl
      subst this
      clear HY
      go_wp2_with fail
      go_ret
      exact ⟨rfl, HF.out⟩
    · have : Y = V := by rw [← HY.out, if_neg (by omega)]
      subst this
      clear HY
      go_wp2_with fail
      go_ret
      exact ⟨rfl, HF.out⟩
  · by_cases hv : V < 0
    · have : Y = 1152921504606846977 := by rw [← HY.out, if_pos (by omega)]; rfl
      subst this
      clear HY
      go_wp2_with fail
      go_ret
      exact ⟨rfl, HF.out⟩
    · have : Y = V := by rw [← HY.out, if_neg (by omega)]
      subst this
      clear HY
      go_wp2_with fail
      go_ret
      exact ⟨rfl, HF.out⟩

theorem df_step {base : Nat} {w : World} {tb pp : Nat} {a b : Int} {A B : List Int} {rs : List (RowD × Value)} {v : Value} (h : TabD base w tb pp a b A.length B.length rs v) (hR : ∀ i (hi : i < rs.length), rs[i].1 = rowF A B i) (hA : A.length ≤ 300) (hB : B.length ≤ 300) (he : rs.length ≤ 257) (d : Int) (hd : -1000 ≤ d) (hd2 : d ≤ 1000) :
    Calls Tryd.prog 44 #[.pointer (some ⟨tb, 0, none⟩), .int .i64 d] w fun e w' => e = .returned (.int .i64 (preF A B rs.length d)) ∧ Fr0 w w' := by
  cases rs with
  | nil => exact df_step0 h hA hB d
  | cons r rs => exact df_step1 h hR hA hB rs.length (by simp) he d hd hd2

end Go.Proofs.YtodmpcnpedpheaaDoor

/- The walks of split.section, Section and Split. -/
import Derived.Test.YtclpndigmidjkaaGreatSpl1
import Derived.Deep.LoopGhost
set_option linter.unusedSimpArgs false
set_option linter.unusedVariables false
namespace Go.Proofs.YtclpndigmidjkaaGreat
open Go.RowKit

/-- A range of a text. -/
def cutL (t : List Int) (f n : Int) : List Int := (t.drop f.toNat).take n.toNat

theorem cut_left {a b : List Int} {f n : Int} (h0 : 0 ≤ f) (h1 : 0 ≤ n) (h : f + n ≤ a.length) : cutL (a ++ b) f n = cutL a f n := by
  unfold cutL
  rw [drop_left _ _ _ (by omega), take_left _ _ _ (by rw [List.length_drop]; omega)]
theorem cut_right {a b : List Int} {f n : Int} (h : (a.length : Int) ≤ f) : cutL (a ++ b) f n = cutL b (f - a.length) n := by
  unfold cutL
  rw [drop_right _ _ _ h]
theorem cut_mid {a b : List Int} {f n : Int} (h0 : 0 ≤ f) (h1 : f < a.length) (h : (a.length : Int) < f + n) : cutL (a ++ b) f n = a.drop f.toNat ++ b.take (f + n - a.length).toNat := by
  unfold cutL
  rw [drop_left _ _ _ (by omega), take_right _ _ _ (by rw [List.length_drop]; omega)]
  congr 3
  rw [List.length_drop]
  omega
theorem cut_all {t : List Int} {f n : Int} (h0 : f = 0) (h1 : n = t.length) : cutL t f n = t := by
  subst h0; subst h1
  unfold cutL
  rw [Int.toNat_natCast, show (0 : Int).toNat = 0 from rfl, List.drop_zero, List.take_length]
theorem cut_len {t : List Int} {f n : Int} (h0 : 0 ≤ f) (h1 : 0 ≤ n) (h2 : f + n ≤ t.length) : ((cutL t f n).length : Int) = n := by
  unfold cutL
  rw [List.length_take, List.length_drop]
  omega
theorem cut_zero (t : List Int) (f : Int) : cutL t f 0 = [] := rfl

/-- The depth of a range, and the rules that it takes. -/
def secD (d e : Int) (k : Nat) : Prop := 0 ≤ e ∧ e ≤ d ∧ (k : Int) ≤ 11 * d + 1

/-- The state of section's loop. -/
structure SecR (w wr : World) (L : List Ent) (t : List Int) (d f n : Int) (gk : Nat) (id' f' : Int) (t' : List Int) (d' : Int) : Prop where
  bal : Bal L id' t' d'
  f0 : 0 ≤ f'
  f1 : f' + n ≤ t'.length
  text : cutL t' f' n = cutL t f n
  d0 : d' ≤ d
  gk : d'.toNat < gk
  fr : Fr0 w wr

set_option maxRecDepth 100000 in
set_option maxHeartbeats 2000000 in
theorem spl_section {B : Nat} {w : World} {p mb : Nat} {most : Int} {L : List Ent} {id : Int} {t : List Int} {d f n : Int} (hR : Room B w p mb most L (11 * d.toNat + 1)) (hb : BalZ L id t d) (h0 : 0 ≤ f) (h1 : 0 ≤ n) (h2 : f + n ≤ t.length) :
    Calls Tryz.prog 115 #[.pointer (some ⟨p, 0, none⟩), .int .i64 id, .int .i64 f, .int .i64 n] w (ZPost B w p mb most L (cutL t f n) (secD d)) := by
  have hdd0 := (hR.sok.at id hb.known).2.1
  rw [hb.depth] at hdd0
  by_cases hz : n = 0
  · subst hz
    have HX := Lib.hid (ZPost.same (D := secD d) hR (Fr0.refl w) (BalZ.zero L) ⟨by omega, by omega, by omega⟩)
    rw [cut_zero]
    clear hR hb
    go_enter Tryz.func115, Tryz.ntmps115
    go_wp2_with fail
    go_ret2
    exact HX.out
  · have hne : id ≠ 0 := by
      intro e
      have := (hb.of0 e).1
      rw [this] at h2
      simp at h2
      omega
    have e1 : (n == 0) = false := by simpa using hz
    have hn1 : 1 ≤ n := by omega
    have HB := Lib.hid (hb.bal hne)
    have HR := Lib.hid hR
    clear hR hb hz
    go_enter Tryz.func115, Tryz.ntmps115
    go_wp2_with fail
    go_loopg [1, 2] (d.toNat + 1) (fun gk i m wr => ∃ (id' f' d' : Int) (t' : List Int), i = .int .i64 id' ∧ m = .int .i64 f' ∧ SecR w wr L t d f n gk id' f' t' d')
    case atStart => exact ⟨id, f, d, t, rfl, rfl, HB.out, h0, h2, rfl, Int.le_refl _, by omega, Fr0.refl w⟩
    case round =>
      obtain ⟨id', f', d', t', rfl, rfl, hr⟩ := hrel
      have hR' : Room B wr p mb most L (11 * d.toNat + 1) := HR.out.kept0 hr.fr
      have HFR := Lib.hid hr.fr
      have hbal := hr.bal
      obtain ⟨d0, d1⟩ := hR'.depth hbal
      have f0 := hr.f0
      have f1 := hr.f1
      have HT := Lib.hid hr.text
      have hdd := hr.d0
      have hg := hr.gk
      clear hr HB
      have hlen := hbal.z.len hR'.dok hR'.sok
      have hle := hbal.le hR'.dok hR'.sok
      have CS := Lib.hid (fun W (hW : Fr0 wr W) => split_size (hR'.st.kept0 hW) id' hbal.known t'.length hlen.symm)
      by_cases hT : n = t'.length
      · have HX := Lib.hid (fun W (hW : Fr0 w W) => ZPost.same (D := secD d) HR.out hW hbal.z ⟨by omega, by omega, by omega⟩)
        rw [← HT.out, cut_all (by omega) hT]
        subst hT
        clear hR' hbal hlen HT HR
        generalize (t'.length : Int) = T at *
        go_wp2_with fail
        refine (CS.out _ (Fr0.refl wr)).mono ?_
        rintro e w1 ⟨rfl, g1⟩
        have HX' := Lib.hid (HX.out _ (HFR.out.trans g1))
        clear HX
        go_wp2_with fail
        go_ret2
        exact HX'.out
      · have hd1 : 1 ≤ d' := by
          by_cases h : d' < 1
          · have := bal_one hR'.dok hR'.sok hbal (by omega); omega
          · omega
        obtain ⟨l, r, tl, tr, dl, dr, hru, hbl, hbr, hst, hdm, hd2, hd3⟩ := bal_parts hR'.dok hbal hd1
        obtain ⟨dl0, _⟩ := hR'.depth hbl
        obtain ⟨dr0, _⟩ := hR'.depth hbr
        have CR := Lib.hid (fun W (hW : Fr0 wr W) => sto_Rule (hR'.st.kept0 hW) id' hbal.known hbal.ne)
        rw [hru] at CR
        have CL := Lib.hid (fun W (hW : Fr0 wr W) => split_size (hR'.st.kept0 hW) l hbl.known tl.length (hbl.z.len hR'.dok hR'.sok).symm)
        have hsum : (t'.length : Int) = tl.length + tr.length := by rw [hst, List.length_append]; omega
        have e2 : (n == (t'.length : Int)) = false := by simpa using hT
        have b1 : (0 : Int) ≤ tl.length := by omega
        have b2 : (tl.length : Int) ≤ 1152921504606846976 := by omega
        have b3 : f' + n ≤ 1152921504606846976 := by omega
        by_cases hc : f' + n ≤ tl.length
        · have HN := Lib.hid (fun W (hW : Fr0 w W) => (⟨hbl, f0, hc, by rw [← HT.out, hst, cut_left f0 (by omega) hc], by omega, by omega, hW⟩ : SecR w W L t d f n (gk - 1) l f' tl dl))
          clear hR' hbal hlen HT HR hru hbl hbr hst hT
          generalize (t'.length : Int) = T at *
          generalize (tl.length : Int) = M at *
          go_wp2_with fail
          refine (CS.out _ (Fr0.refl wr)).mono ?_
          rintro e w1 ⟨rfl, g1⟩
          go_wp2_with fail
          refine (CR.out _ g1).mono ?_
          rintro e w2 ⟨rfl, g2⟩
          have G2 := g1.trans g2
          clear g1 g2
          go_wp2_with fail
          refine (CL.out _ (G2.alloc _)).mono ?_
          rintro e w3 ⟨rfl, g3⟩
          have hr3 := g3.kept (b := w2.heap.size) (alloc_at w2 _ _ rfl)
          have G3 := (G2.alloc _).trans g3
          obtain ⟨r1, r2, r3, r4, r5, lr⟩ := cells5 hr3
          have HN' := Lib.hid (HN.out _ (HFR.out.trans G3))
          clear hr3 g3 HN
          go_wp2_with fail
          go_roundg (gk - 1)
          case rel => exact ⟨l, f', dl, tl, rfl, rfl, HN'.out⟩
          case measure => omega
        · have hc2 : decide (f' + n ≤ (tl.length : Int)) = false := decide_eq_false hc
          have hc3 : (tl.length : Int) < f' + n := by omega
          by_cases hm : (tl.length : Int) ≤ f'
          · have HN := Lib.hid (fun W (hW : Fr0 w W) => (⟨hbr, by omega, by omega, by rw [← HT.out, hst, cut_right hm], by omega, by omega, hW⟩ : SecR w W L t d f n (gk - 1) r (f' - tl.length) tr dr))
            clear hR' hbal hlen HT HR hru hbl hbr hst hT
            generalize (t'.length : Int) = T at *
            generalize (tl.length : Int) = M at *
            go_wp2_with fail
            refine (CS.out _ (Fr0.refl wr)).mono ?_
            rintro e w1 ⟨rfl, g1⟩
            go_wp2_with fail
            refine (CR.out _ g1).mono ?_
            rintro e w2 ⟨rfl, g2⟩
            have G2 := g1.trans g2
            clear g1 g2
            go_wp2_with fail
            refine (CL.out _ (G2.alloc _)).mono ?_
            rintro e w3 ⟨rfl, g3⟩
            have hr3 := g3.kept (b := w2.heap.size) (alloc_at w2 _ _ rfl)
            have G3 := (G2.alloc _).trans g3
            obtain ⟨r1, r2, r3, r4, r5, lr⟩ := cells5 hr3
            have HN' := Lib.hid (HN.out _ (HFR.out.trans G3))
            clear hr3 g3 HN
            go_wp2_with fail
            go_roundg (gk - 1)
            case rel => exact ⟨r, f' - M, dr, tr, rfl, rfl, HN'.out⟩
            case measure => omega
          · have hm2 : decide ((tl.length : Int) ≤ f') = false := decide_eq_false hm
            have hm3 : f' < (tl.length : Int) := by omega
            have CF := Lib.hid (fun W (hW : Fr0 wr W) => spl_rest (dl.toNat + 1) B W p mb most L l tl dl f' (by omega) ((hR'.kept0 hW).less (by omega)) hbl f0 (by omega))
            have HTX := Lib.hid (show cutL t f n = tl.drop f'.toNat ++ tr.take (f' + n - tl.length).toNat by rw [← HT.out, hst, cut_mid f0 hm3 hc3])
            have HRW := Lib.hid hR'
            have HBR := Lib.hid hbr
            have l1 : (((tl.drop f'.toNat).length : Nat) : Int) ≤ tl.length := by rw [List.length_drop]; omega
            have l2 : (((tr.take (f' + n - tl.length).toNat).length : Nat) : Int) ≤ tr.length := by rw [List.length_take]; omega
            have HLL := Lib.hid (show ((tl.drop f'.toNat).length : Int) + (tr.take (f' + n - tl.length).toNat).length ≤ 1152921504606846976 by omega)
            have HTR := Lib.hid (show f' + n - tl.length ≤ (tr.length : Int) by omega)
            clear hR' hbal hlen HT HR hru hbl hbr hst hT l1 l2
            rw [HTX.out]
            clear HTX
            generalize (t'.length : Int) = T at *
            generalize (tl.length : Int) = M at *
            go_wp2_with fail
            refine (CS.out _ (Fr0.refl wr)).mono ?_
            rintro e w1 ⟨rfl, g1⟩
            go_wp2_with fail
            refine (CR.out _ g1).mono ?_
            rintro e w2 ⟨rfl, g2⟩
            have G2 := g1.trans g2
            clear g1 g2
            go_wp2_with fail
            refine (CL.out _ (G2.alloc _)).mono ?_
            rintro e w3 ⟨rfl, g3⟩
            have hr3 := g3.kept (b := w2.heap.size) (alloc_at w2 _ _ rfl)
            have G3 := (G2.alloc _).trans g3
            obtain ⟨r1, r2, r3, r4, r5, lr⟩ := cells5 hr3
            have HR3 := Lib.hid hr3
            clear hr3 g3
            go_wp2_with fail
            refine (CF.out _ G3).mono ?_
            rintro e w4 ⟨L1, x, dx, kx, rfl, hS1, hK1, g, bx, hx0, hx1, hx2⟩
            have hr4 := hK1.cells _ _ _ _ HR3.out (by decide) (by decide)
            have hRm1 := (HRW.out.kept0 G3).next (k := 11 * d.toNat + 1 - kx) hS1 hK1 g (by omega)
            have CG := Lib.hid (spl_front (dr.toNat + 1) B w4 p mb most L1 r tr dr (f' + n - M) (by omega) (hRm1.less (by omega)) (g.bal HRW.out.dok HBR.out) (by omega) HTR.out)
            have HRM := Lib.hid hRm1
            have HK := Lib.hid ((Kp.of0 (HFR.out.trans G3)).trans hK1)
            have HG := Lib.hid g
            have HBX := Lib.hid bx
            clear hS1 hK1 g bx r1 r2 r3 r4 r5 lr HR3 CF hRm1
            obtain ⟨r1, r2, r3, r4, r5, lr⟩ := cells5 hr4
            clear hr4
            go_wp2_with fail
            refine CG.out.mono ?_
            rintro e w5 ⟨L2, y, dy, ky, rfl, hS2, hK2, g2, by2, hy0, hy1, hy2⟩
            have CJ := Lib.hid (avl_Join (HRM.out.next hS2 hK2 g2 (by unfold joinN; omega)) (g2.balz HRM.out.dok HBX.out) by2 HLL.out)
            have HK2 := Lib.hid (HK.out.trans hK2)
            have HG2 := Lib.hid (HG.out.trans g2 (Nat.le_refl _))
            clear hS2 hK2 g2 by2 CG HRM r1 r2 r3 r4 r5 lr
            go_wp2_with fail
            refine CJ.out.mono ?_
            rintro e w6 hx
            obtain ⟨z, rfl⟩ := hx.ret
            have HX := Lib.hid (ZPost.next (E := secD d) HK2.out HG2.out hx (fun e k h => by obtain ⟨⟨h1, h2⟩, h3⟩ := h; unfold joinN at h3; exact ⟨by omega, by omega, by omega⟩))
            clear hx CJ
            go_wp2_with fail
            go_ret2
            exact HX.out

set_option maxRecDepth 100000 in
set_option maxHeartbeats 1000000 in
theorem spl_Section {B : Nat} {w : World} {p mb : Nat} {most : Int} {L : List Ent} {id : Int} {t : List Int} {d f n : Int} (hR : Room B w p mb most L (11 * d.toNat + 1)) (hb : BalZ L id t d) (h0 : 0 ≤ f) (h1 : 0 ≤ n) (h2 : f + n ≤ t.length) :
    Calls Tryz.prog 106 #[.pointer (some ⟨p, 0, none⟩), .int .i64 id, .int .i64 f, .int .i64 n] w (ZPost B w p mb most L (cutL t f n) (secD d)) := by
  have hlen := hb.len hR.dok hR.sok
  have hle := (hR.sok.at id hb.known).1.len1
  have C1 := Lib.hid (split_check hR.st id hb.known hb.even t.length hlen.symm)
  have C3 := Lib.hid (fun W (hW : Fr0 w W) => spl_section (hR.kept0 hW) hb h0 h1 h2)
  have hT : (t.length : Int) ≤ 1152921504606846976 := by omega
  clear hR hb hlen hle
  generalize cutL t f n = u at *
  generalize (t.length : Int) = T at *
  have C2 := Lib.hid (fun w => len_Range_ok f n T w h0 h1 h2 hT)
  go_enter Tryz.func106, Tryz.ntmps106
  go_wp2_with fail
  refine C1.out.mono ?_
  rintro e w1 ⟨rfl, f1⟩
  go_wp2_with fail
  refine (C2.out _).mono ?_
  rintro e w' ⟨rfl, rfl⟩
  go_wp2_with fail
  refine (C3.out _ f1).mono ?_
  rintro e w2 hx
  obtain ⟨z, rfl⟩ := hx.ret
  have HX := Lib.hid (ZPost.before f1 hx)
  clear hx
  go_wp2_with fail
  go_ret2
  exact HX.out

theorem spl_frontZ {B : Nat} {w : World} {p mb : Nat} {most : Int} {L : List Ent} {id : Int} {t : List Int} {d m : Int} (hR : Room B w p mb most L (4 * d.toNat)) (hb : BalZ L id t d) (h0 : 0 ≤ m) (h1 : m ≤ t.length) :
    Calls Tryz.prog 130 #[.pointer (some ⟨p, 0, none⟩), .int .i64 id, .int .i64 m] w (ZPost B w p mb most L (t.take m.toNat) (partD d)) := by
  by_cases hz : id = 0
  · obtain ⟨rfl, rfl⟩ := hb.of0 hz
    obtain rfl : m = 0 := by simp at h1; omega
    refine (spl_front_zero p id w).mono ?_
    rintro e w' ⟨rfl, rfl⟩
    exact ZPost.same hR (Fr0.refl w) (BalZ.zero L) ⟨by omega, by omega, by omega⟩
  · exact spl_front (d.toNat + 1) B w p mb most L id t d m (by omega) hR (hb.bal hz) h0 h1

theorem spl_restZ {B : Nat} {w : World} {p mb : Nat} {most : Int} {L : List Ent} {id : Int} {t : List Int} {d m : Int} (hR : Room B w p mb most L (4 * d.toNat)) (hb : BalZ L id t d) (h0 : 0 ≤ m) (h1 : m ≤ t.length) :
    Calls Tryz.prog 131 #[.pointer (some ⟨p, 0, none⟩), .int .i64 id, .int .i64 m] w (ZPost B w p mb most L (t.drop m.toNat) (partD d)) := by
  by_cases hz : id = 0
  · obtain ⟨rfl, rfl⟩ := hb.of0 hz
    obtain rfl : m = 0 := by simp at h1; omega
    subst hz
    refine (spl_rest_zero p 0 w).mono ?_
    rintro e w' ⟨rfl, rfl⟩
    exact ZPost.same hR (Fr0.refl w) (BalZ.zero L) ⟨by omega, by omega, by omega⟩
  · exact spl_rest (d.toNat + 1) B w p mb most L id t d m (by omega) hR (hb.bal hz) h0 h1

/-- What Split leaves. -/
def SPost (B : Nat) (w : World) (p mb : Nat) (most : Int) (L : List Ent) (t : List Int) (d m : Int) (e : Ending) (w' : World) : Prop :=
  ∃ L' x y dx dy k, e = .returned (.tuple #[.int .i64 x, .int .i64 y, .nilIface]) ∧ Sto B w' p mb most L' ∧ Kp B mb w w' ∧ Grows L L' k ∧ BalZ L' x (t.take m.toNat) dx ∧ BalZ L' y (t.drop m.toNat) dy ∧ dx ≤ d ∧ dy ≤ d ∧ (k : Int) ≤ 8 * d

set_option maxRecDepth 100000 in
set_option maxHeartbeats 1000000 in
theorem spl_Split {B : Nat} {w : World} {p mb : Nat} {most : Int} {L : List Ent} {id : Int} {t : List Int} {d m : Int} (hR : Room B w p mb most L (8 * d.toNat)) (hb : BalZ L id t d) (h0 : 0 ≤ m) (h1 : m ≤ t.length) :
    Calls Tryz.prog 107 #[.pointer (some ⟨p, 0, none⟩), .int .i64 id, .int .i64 m] w (SPost B w p mb most L t d m) := by
  have hlen := hb.len hR.dok hR.sok
  have hd0 := (hR.sok.at id hb.known).2.1
  rw [hb.depth] at hd0
  have C1 := Lib.hid (split_check hR.st id hb.known hb.even t.length hlen.symm)
  have C2 := Lib.hid (fun W (hW : Fr0 w W) => spl_frontZ ((hR.kept0 hW).less (by omega)) hb h0 h1)
  have HR := Lib.hid hR
  have HB := Lib.hid hb
  clear hR hb hlen
  generalize hTT : (t.length : Int) = T at *
  have HTT := Lib.hid hTT
  clear hTT
  have e1 : decide (m < 0) = false := decide_eq_false (by omega)
  have e2 : decide (T < m) = false := decide_eq_false (by omega)
  go_enter Tryz.func107, Tryz.ntmps107
  go_wp2_with fail
  refine C1.out.mono ?_
  rintro e w1 ⟨rfl, f1⟩
  go_wp2_with fail
  refine (C2.out _ f1).mono ?_
  rintro e w2 ⟨L1, x, dx, kx, rfl, hS1, hK1, g, bx, hx0, hx1, hx2⟩
  have hRm := (HR.out.kept0 f1).next (k := 4 * d.toNat) hS1 hK1 g (by omega)
  have C3 := Lib.hid (spl_restZ hRm (g.balz HR.out.dok HB.out) h0 (by have := HTT.out; omega))
  have HK := Lib.hid ((Kp.of0 f1).trans hK1)
  have HG := Lib.hid g
  have HBX := Lib.hid bx
  have HD := Lib.hid hRm.dok
  clear hS1 hK1 g bx hRm C2
  go_wp2_with fail
  refine C3.out.mono ?_
  rintro e w3 ⟨L2, y, dy, ky, rfl, hS2, hK2, g2, by2, hy0, hy1, hy2⟩
  have HX : Hid (SPost B w p mb most L t d m (.returned (.tuple #[.int .i64 x, .int .i64 y, .nilIface])) w3) :=
    ⟨L2, x, y, dx, dy, _, rfl, hS2, HK.out.trans hK2, HG.out.trans g2 (Nat.le_refl _), g2.balz HD.out HBX.out, by2, hx1, hy1, by omega⟩
  clear hS2 hK2 g2 by2 C3
  go_wp2_with fail
  go_ret3
  exact HX.out

end Go.Proofs.YtclpndigmidjkaaGreat

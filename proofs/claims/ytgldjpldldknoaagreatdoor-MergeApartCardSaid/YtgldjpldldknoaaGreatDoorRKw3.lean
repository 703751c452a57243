/- The walk of keys.compute. -/
import Derived.Test.YtgldjpldldknoaaGreatDoorRKw1
import Derived.Test.YtgldjpldldknoaaGreatDoorRPq1
import Derived.Deep.RegionHeld3
set_option linter.unusedSimpArgs false
set_option linter.unusedVariables false
namespace Go.Proofs.YtgldjpldldknoaaGreatDoor
open Go.RowKit
theorem keys_afterI (low x y : Int) (h0 : 0 ≤ low) (h1 : low ≤ 1099511627776) (hx : 0 ≤ x ∧ x < 2305843009213693951) (hy : 0 ≤ y ∧ y < 2305843009213693951) (w : World) (hT : TabAt 0 Lib.deBruijn64tab w) :
    Calls Tryz.prog 144 #[.int .i64 low, .int .u64 x, .int .u64 y] w fun e w' => e = .returned (.int .i64 (aftI low x y)) ∧ Fr0 w w' := by
 obtain ⟨p, rfl⟩ := Int.eq_ofNat_of_zero_le hx.1
 obtain ⟨q, rfl⟩ := Int.eq_ofNat_of_zero_le hy.1
 exact keys_after low p q h0 h1 (by omega) (by omega) w hT
theorem put3 {X : World} {k : Nat} {u0 u1 u2 : Value} {t : TypeId} (h : X.heap[k]? = some (.cells #[u0, u1, u2] t (0, 0))) (v0 v1 v2 : Value) : (((X.setCell ⟨k, 0, none⟩ v0).setCell ⟨k, 1, none⟩ v1).setCell ⟨k, 2, none⟩ v2).heap[k]? = some (.cells #[v0, v1, v2] t (0, 0)) := by
 rw [setCell_block (setCell_block (setCell_block h 0 v0) 1 v1) 2 v2]
 rfl
structure Rd2 (w : World) (tp rb n cap l r : Nat) (a la b lb : Int) (ka kb : Bool) : Prop where
 tab : w.cell? ⟨tp, 1, none⟩ = some (.slice (some ⟨rb, 0, none⟩) n cap)
 l0 : w.cell? ⟨rb, l * 3, none⟩ = some (.int .u64 a)
 l1 : w.cell? ⟨rb, l * 3 + 1, none⟩ = some (.int .i64 la)
 l2 : w.cell? ⟨rb, l * 3 + 2, none⟩ = some (.bool ka)
 r0 : w.cell? ⟨rb, r * 3, none⟩ = some (.int .u64 b)
 r1 : w.cell? ⟨rb, r * 3 + 1, none⟩ = some (.int .i64 lb)
 r2 : w.cell? ⟨rb, r * 3 + 2, none⟩ = some (.bool kb)
 hl : l < n
 hr : r < n
theorem Rd2.kept0 {w w' : World} {tp rb n cap l r : Nat} {a la b lb : Int} {ka kb : Bool} (h : Rd2 w tp rb n cap l r a la b lb ka kb) (hf : Fr0 w w') : Rd2 w' tp rb n cap l r a la b lb ka kb := by
 have k : ∀ o x v, w.cell? ⟨o, x, none⟩ = some v → w'.cell? ⟨o, x, none⟩ = some v := fun o x v e => (hf.cell o x (World.block_lt_of_cell? w _ e)).trans e
 exact ⟨k _ _ _ h.tab, k _ _ _ h.l0, k _ _ _ h.l1, k _ _ _ h.l2, k _ _ _ h.r0, k _ _ _ h.r1, k _ _ _ h.r2, h.hl, h.hr⟩
def cmpR (kd letter l r times a la b lb : Int) : Int × Int :=
 if kd = 1 then (mixI 1 letter 0, 0)
 else if kd = 2 then (mixI 2 a b, if l ≠ r ∧ 0 ≤ la ∧ 0 ≤ lb then aftI (max la lb) a b else -1)
 else (mixI 3 a times, if 0 ≤ la ∧ la % 2 = 0 then la + 1 else -1)
structure Cp2 (w wx : World) (E P5 P6 : Nat) (kd letter l r times a la b lb : Int) (ka kb : Bool) : Prop where
 fr : Fr0 w wx
 b5 : wx.heap[P5]? = some (.cells #[.int .u64 a, .int .i64 la, .bool ka] 208 (0, 0))
 b6 : wx.heap[P6]? = some (.cells #[.int .u64 b, .int .i64 lb, .bool kb] 208 (0, 0))
 be : wx.heap[E]? = some (.cells #[.int .i64 kd, .int .u8 letter, .int .i64 l, .int .i64 r, .int .i64 times] 82 (0, 0))
 br : wx.heap[E + 1]? = some (.cells #[.int .u64 0, .int .i64 0, .bool false] 208 (0, 0))
 p5 : w.heap.size ≤ P5
 p6 : w.heap.size ≤ P6
theorem cp2_a {w W0 : World} {E : Nat} {kd letter l r times a la b lb : Int} {ka kb : Bool} (F0 : Fr0 w W0)
    (be : W0.heap[E]? = some (.cells #[.int .i64 kd, .int .u8 letter, .int .i64 l, .int .i64 r, .int .i64 times] 82 (0, 0))) (br : W0.heap[E + 1]? = some (.cells #[.int .u64 0, .int .i64 0, .bool false] 208 (0, 0))) :
    Cp2 w ((W0.alloc (.cells #[.int .u64 a, .int .i64 la, .bool ka] 208 (0, 0))).alloc (.cells #[.int .u64 b, .int .i64 lb, .bool kb] 208 (0, 0))).drew E W0.heap.size (W0.heap.size + 1) kd letter l r times a la b lb ka kb :=
 ⟨((F0.alloc _).alloc _).drew, alloc2_0 _ _ _, alloc2_1 _ _ _, (((Fr0.refl W0).alloc _).alloc _).kept be, (((Fr0.refl W0).alloc _).alloc _).kept br, Fr.size F0, Nat.le_succ_of_le (Fr.size F0)⟩
theorem cp2_b {w W0 : World} {E : Nat} {kd letter l r times a la b lb : Int} {ka kb : Bool} (F0 : Fr0 w W0)
    (be : W0.heap[E]? = some (.cells #[.int .i64 kd, .int .u8 letter, .int .i64 l, .int .i64 r, .int .i64 times] 82 (0, 0))) (br : W0.heap[E + 1]? = some (.cells #[.int .u64 0, .int .i64 0, .bool false] 208 (0, 0))) :
    Cp2 w ((W0.alloc (.cells #[.int .u64 b, .int .i64 lb, .bool kb] 208 (0, 0))).alloc (.cells #[.int .u64 a, .int .i64 la, .bool ka] 208 (0, 0))).drew E (W0.heap.size + 1) W0.heap.size kd letter l r times a la b lb ka kb :=
 ⟨((F0.alloc _).alloc _).drew, alloc2_1 _ _ _, alloc2_0 _ _ _, (((Fr0.refl W0).alloc _).alloc _).kept be, (((Fr0.refl W0).alloc _).alloc _).kept br, Nat.le_succ_of_le (Fr.size F0), Fr.size F0⟩
theorem cp3 {w wc w1 : World} {E P5 P6 P7 : Nat} {o5 o6 oe or o7 : Obj} (hfr : Fr0 w wc) (hf1 : Fr0 (wc.alloc o7) w1) (hP7 : wc.heap.size = P7) (h5 : wc.heap[P5]? = some o5) (h6 : wc.heap[P6]? = some o6) (he : wc.heap[E]? = some oe) (hr : wc.heap[E + 1]? = some or) :
    Fr0 w w1 ∧ w1.heap[P5]? = some o5 ∧ w1.heap[P6]? = some o6 ∧ w1.heap[E]? = some oe ∧ w1.heap[E + 1]? = some or ∧ w1.heap[P7]? = some o7 ∧ P5 ≠ P7 ∧ P6 ≠ P7 ∧ E ≠ P7 ∧ E + 1 ≠ P7 := by
 have FF : Fr0 wc w1 := ((Fr0.refl wc).alloc _).trans hf1
 have a := lt_of_block h5
 have b := lt_of_block h6
 have c := lt_of_block he
 have d := lt_of_block hr
 exact ⟨hfr.trans FF, FF.kept h5, FF.kept h6, FF.kept he, FF.kept hr, hf1.kept (alloc_at _ _ _ hP7.symm), by omega, by omega, by omega, by omega⟩
set_option maxRecDepth 100000 in
set_option maxHeartbeats 8000000 in
theorem keys_compute {w : World} {tp rb n cap l r : Nat} {a la b lb : Int} {ka kb : Bool} (h : Rd2 w tp rb n cap l r a la b lb ka kb) (hn : n ≤ 1048577) (kd letter times : Int) (h0 : 0 ≤ letter) (h1 : letter < 256) (hkd : 1 ≤ kd ∧ kd ≤ 3) (ha : 0 ≤ a ∧ a < 2305843009213693951) (hb : 0 ≤ b ∧ b < 2305843009213693951) (ht : 0 ≤ times ∧ times < 2305843009213693952) (hla : -1 ≤ la ∧ la ≤ 1099511627776) (hlb : -1 ≤ lb ∧ lb ≤ 1099511627776) (hT : TabAt 0 Lib.deBruijn64tab w) :
    Calls Tryz.prog 132 #[.pointer (some ⟨tp, 0, none⟩), .agg #[.int .i64 kd, .int .u8 letter, .int .i64 l, .int .i64 r, .int .i64 times]] w fun e w' => e = .returned (.agg #[.int .u64 (cmpR kd letter l r times a la b lb).1, .int .i64 (cmpR kd letter l r times a la b lb).2, .bool true]) ∧ Fr0 w w' := by
 have HRD := Lib.hid h
 have q1 : (0 : Int) ≤ (l : Int) := by omega
 have q2 : (l : Int) < (n : Int) := by have := h.hl; omega
 have q3 : (0 : Int) ≤ (r : Int) := by omega
 have q4 : (r : Int) < (n : Int) := by have := h.hr; omega
 clear h
 go_enter Tryz.func132, Tryz.ntmps132
 go_wp2_with fail
 have F0 : Fr0 w ((w.alloc (.cells #[.int .i64 kd, .int .u8 letter, .int .i64 l, .int .i64 r, .int .i64 times] 82 (0, 0))).alloc (.cells #[.int .u64 0, .int .i64 0, .bool false] 208 (0, 0))) := ((Fr0.refl w).alloc _).alloc _
 have b0 := alloc2_0 w (.cells #[.int .i64 kd, .int .u8 letter, .int .i64 l, .int .i64 r, .int .i64 times] 82 (0, 0)) (.cells #[.int .u64 0, .int .i64 0, .bool false] 208 (0, 0))
 have b1 := alloc2_1 w (.cells #[.int .i64 kd, .int .u8 letter, .int .i64 l, .int .i64 r, .int .i64 times] 82 (0, 0)) (.cells #[.int .u64 0, .int .i64 0, .bool false] 208 (0, 0))
 generalize (w.alloc (.cells #[.int .i64 kd, .int .u8 letter, .int .i64 l, .int .i64 r, .int .i64 times] 82 (0, 0))).alloc (.cells #[.int .u64 0, .int .i64 0, .bool false] 208 (0, 0)) = W0 at *
 obtain ⟨E, hE⟩ : ∃ E, w.heap.size = E := ⟨_, rfl⟩
 rw [hE] at b0 b1 ⊢
 have HE := Lib.hid hE
 have HB0 := Lib.hid b0
 have HB1 := Lib.hid b1
 have HF0 := Lib.hid F0
 clear hE
 go_cut [5, 6] (fun v5 v6 wx => ∃ P5 P6, v5 = .pointer (some ⟨P5, 0, none⟩) ∧ v6 = .pointer (some ⟨P6, 0, none⟩) ∧ Cp2 w wx E P5 P6 kd letter l r times a la b lb ka kb)
 case first =>
  obtain ⟨t1, l0, l1, l2, r0, r1, r2, hl, hr⟩ := HRD.out.kept0 F0
  have e2 : W0.cell? ⟨E, 2, none⟩ = some (.int .i64 l) := by rw [cell_of_block b0]; rfl
  have e3 : W0.cell? ⟨E, 3, none⟩ = some (.int .i64 r) := by rw [cell_of_block b0]; rfl
  clear b0 b1
  have hfr0 : Fr0 W0 W0 := Fr0.refl W0
  have HKEY : Hid (∀ W, Fr0 W0 W → Fr0 W0 W ∧ W.cell? ⟨tp, 1, none⟩ = some (.slice (some ⟨rb, 0, none⟩) n cap) ∧ W.cell? ⟨rb, l * 3, none⟩ = some (.int .u64 a) ∧ W.cell? ⟨rb, l * 3 + 1, none⟩ = some (.int .i64 la) ∧ W.cell? ⟨rb, l * 3 + 2, none⟩ = some (.bool ka) ∧ W.cell? ⟨rb, r * 3, none⟩ = some (.int .u64 b) ∧ W.cell? ⟨rb, r * 3 + 1, none⟩ = some (.int .i64 lb) ∧ W.cell? ⟨rb, r * 3 + 2, none⟩ = some (.bool kb) ∧ W.cell? ⟨E, 2, none⟩ = some (.int .i64 l) ∧ W.cell? ⟨E, 3, none⟩ = some (.int .i64 r)) := by
   intro W hW
   have g := HRD.out.kept0 (HF0.out.trans hW)
   exact ⟨hW, g.tab, g.l0, g.l1, g.l2, g.r0, g.r1, g.r2, by rw [cell_of_block (hW.kept HB0.out)]; rfl, by rw [cell_of_block (hW.kept HB0.out)]; rfl⟩
  go_region_held3 (fun w' => Fr0 W0 w' ∧ w'.cell? ⟨tp, 1, none⟩ = some (.slice (some ⟨rb, 0, none⟩) n cap) ∧ w'.cell? ⟨rb, l * 3, none⟩ = some (.int .u64 a) ∧ w'.cell? ⟨rb, l * 3 + 1, none⟩ = some (.int .i64 la) ∧ w'.cell? ⟨rb, l * 3 + 2, none⟩ = some (.bool ka) ∧ w'.cell? ⟨rb, r * 3, none⟩ = some (.int .u64 b) ∧ w'.cell? ⟨rb, r * 3 + 1, none⟩ = some (.int .i64 lb) ∧ w'.cell? ⟨rb, r * 3 + 2, none⟩ = some (.bool kb) ∧ w'.cell? ⟨E, 2, none⟩ = some (.int .i64 l) ∧ w'.cell? ⟨E, 3, none⟩ = some (.int .i64 r))
   (exact HKEY.out _ (by repeat (first | exact Fr0.refl _ | refine Fr0.alloc ?_ _ | refine Fr0.drew ?_ | refine Fr0.setCell ?_ _ _ (by simp; try omega)))) (fail)
  all_goals
   go_wp2_with fail
   go_meet
   first
   | exact ⟨_, _, rfl, rfl, cp2_a HF0.out HB0.out HB1.out⟩
   | exact ⟨_, _, rfl, rfl, cp2_b HF0.out HB0.out HB1.out⟩
 case rest =>
  clear b0 b1 F0 HB0 HB1 HF0 HRD q2 q4
  obtain ⟨P5, P6, rfl, rfl, hfr, hb5, hb6, hbe, hbr, hp5, hp6⟩ := hcut
  obtain ⟨a0, a1, a2, _, l5⟩ := cells3 hb5
  obtain ⟨c0, c1, c2, _, l6⟩ := cells3 hb6
  obtain ⟨e0, e1, e2, e3, e4, le⟩ := cells5 hbe
  obtain ⟨g0, g1, g2, gf, lr⟩ := cells3 hbr
  by_cases k1 : kd = 1
  · subst k1
    have CM := Lib.hid (fun W => mod_Mix 1 letter 0 (by omega) (by omega) h0 (by omega) (by omega) (by omega) W)
    have HR : Hid (cmpR 1 letter l r times a la b lb = (mixI 1 letter 0, 0)) := by show _ = _; unfold cmpR; rw [if_pos rfl]
    generalize mixI 1 letter 0 = m at *
    go_wp2_with fail
    refine (CM.out _).mono ?_
    rintro e w1 ⟨rfl, hf1⟩
    generalize hP7 : wc.heap.size = P7 at *
    obtain ⟨HFF, b5, b6, be, br, b7, n5, n6, n0, n1⟩ := cp3 hfr hf1 hP7 hb5 hb6 hbe hbr
    have hs1 := Fr.size hfr
    have hs2 : w.heap.size ≤ E ∧ w.heap.size ≤ P7 := ⟨by have := HE.out; omega, by omega⟩
    have HF := Lib.hid HFF
    clear hP7 l5 l6 le lr HFF hf1 hfr CM hb5 hb6 hbe hbr a0 a1 a2 c0 c1 c2 e0 e1 e2 e3 e4 g0 g1 g2 gf
    obtain ⟨a0, a1, a2, _, l5⟩ := cells3 b5
    obtain ⟨c0, c1, c2, _, l6⟩ := cells3 b6
    obtain ⟨e0, e1, e2, e3, e4, le⟩ := cells5 be
    obtain ⟨g0, g1, g2, gf, lr⟩ := cells3 br
    obtain ⟨d0, d1, d2, df, l7⟩ := cells3 b7
    clear b5 b6 be b7
    go_wp2_with fail
    have hX := (setCell_other ⟨P7, 1, none⟩ (.int .i64 (0)) n1).trans ((setCell_other ⟨P7, 0, none⟩ (.int .u64 m) n1).trans br)
    obtain ⟨o0, o1, o2, _, _⟩ := cells3 (put3 hX (.int .u64 m) (.int .i64 (0)) (.bool true))
    exact bodyPost_ret (v := .agg #[.int .u64 m, .int .i64 (0), .bool true]) (by simp [results, Tryz.results132, go_sem, o0, o1, o2]) rfl ⟨by rw [HR.out], by (repeat' (first | (with_reducible exact HF.out) | (with_reducible refine Fr0.setCell ?_ _ _ ?_) | (with_reducible refine Fr0.alloc ?_ _) | (with_reducible refine Fr0.drew ?_))) <;> first | omega | (dsimp only; omega) | (simp; done) | (simp; omega)⟩
  · by_cases k2 : kd = 2
    · subst k2
      have CM := Lib.hid (fun W => mod_Mix 2 a b (by omega) (by omega) ha.1 (by omega) hb.1 (by omega) W)
      clear k1
      by_cases c1 : (l : Int) = r
      · have q5 : ((l : Int) != r) = false := by simp [c1]
        have HR : Hid (cmpR 2 letter l r times a la b lb = (mixI 2 a b, -1)) := by show _ = _; unfold cmpR; rw [if_neg (by decide), if_pos rfl, if_neg (fun e => e.1 c1)]
        generalize mixI 2 a b = m at *
        clear c1
        go_wp2_with fail
        refine (CM.out _).mono ?_
        rintro e w1 ⟨rfl, hf1⟩
        generalize hP7 : wc.heap.size = P7 at *
        obtain ⟨HFF, b5, b6, be, br, b7, n5, n6, n0, n1⟩ := cp3 hfr hf1 hP7 hb5 hb6 hbe hbr
        have hs1 := Fr.size hfr
        have hs2 : w.heap.size ≤ E ∧ w.heap.size ≤ P7 := ⟨by have := HE.out; omega, by omega⟩
        have HF := Lib.hid HFF
        clear hP7 l5 l6 le lr HFF hf1 hfr CM hb5 hb6 hbe hbr a0 a1 a2 c0 c1 c2 e0 e1 e2 e3 e4 g0 g1 g2 gf
        obtain ⟨a0, a1, a2, _, l5⟩ := cells3 b5
        obtain ⟨c0, c1, c2, _, l6⟩ := cells3 b6
        obtain ⟨e0, e1, e2, e3, e4, le⟩ := cells5 be
        obtain ⟨g0, g1, g2, gf, lr⟩ := cells3 br
        obtain ⟨d0, d1, d2, df, l7⟩ := cells3 b7
        clear b5 b6 be b7
        go_wp2_with fail
        have hX := (setCell_other ⟨P7, 0, none⟩ (.int .u64 m) n1).trans br
        obtain ⟨o0, o1, o2, _, _⟩ := cells3 (put3 hX (.int .u64 m) (.int .i64 (-1)) (.bool true))
        exact bodyPost_ret (v := .agg #[.int .u64 m, .int .i64 (-1), .bool true]) (by simp [results, Tryz.results132, go_sem, o0, o1, o2]) rfl ⟨by rw [HR.out], by (repeat' (first | (with_reducible exact HF.out) | (with_reducible refine Fr0.setCell ?_ _ _ ?_) | (with_reducible refine Fr0.alloc ?_ _) | (with_reducible refine Fr0.drew ?_))) <;> first | omega | (dsimp only; omega) | (simp; done) | (simp; omega)⟩
      · have q5 : ((l : Int) != r) = true := by simp [c1]
        by_cases c2 : 0 ≤ la
        · by_cases c3 : 0 ≤ lb
          · have q6 : decide (0 ≤ la) = true := decide_eq_true c2
            have q7 : decide (0 ≤ lb) = true := decide_eq_true c3
            by_cases c4 : la < lb
            · have q8 : ¬ lb ≤ la := by omega
              have hmx : 0 ≤ lb := by omega
              have hmx2 : lb ≤ 1099511627776 := by omega
              have hme : max la lb = lb := by omega
              have CA := Lib.hid (fun W (hW : Fr0 w W) => keys_afterI (lb) a b hmx hmx2 ha hb W (fun j hj => by rw [hW.cell _ _ (World.block_lt_of_cell? w _ (hT j hj))]; exact hT j hj))
              have HR : Hid (cmpR 2 letter l r times a la b lb = (mixI 2 a b, aftI (lb) a b)) := by show _ = _; unfold cmpR; rw [if_neg (by decide), if_pos rfl, if_pos ⟨c1, c2, c3⟩, hme]
              generalize mixI 2 a b = m at *
              generalize aftI (lb) a b = lev at *
              clear c1 hmx hmx2 hme c2 c3
              go_wp2_with fail
              refine (CM.out _).mono ?_
              rintro e w1 ⟨rfl, hf1⟩
              generalize hP7 : wc.heap.size = P7 at *
              obtain ⟨HFF, b5, b6, be, br, b7, n5, n6, n0, n1⟩ := cp3 hfr hf1 hP7 hb5 hb6 hbe hbr
              have hs1 := Fr.size hfr
              have hs2 : w.heap.size ≤ E ∧ w.heap.size ≤ P7 := ⟨by have := HE.out; omega, by omega⟩
              have HF := Lib.hid HFF
              clear hP7 l5 l6 le lr HFF hf1 hfr CM hb5 hb6 hbe hbr a0 a1 a2 c0 c1 c2 e0 e1 e2 e3 e4 g0 g1 g2 gf
              obtain ⟨a0, a1, a2, _, l5⟩ := cells3 b5
              obtain ⟨c0, c1, c2, _, l6⟩ := cells3 b6
              obtain ⟨e0, e1, e2, e3, e4, le⟩ := cells5 be
              obtain ⟨g0, g1, g2, gf, lr⟩ := cells3 br
              obtain ⟨d0, d1, d2, df, l7⟩ := cells3 b7
              clear l5 l6 le lr l7
              have HD : Hid (Fr0 w (w1.setCell ⟨P7, 0, none⟩ (.int .u64 m))) := Fr0.setCell HF.out _ _ (by dsimp only; omega)
              have hb5 : (w1.setCell ⟨P7, 0, none⟩ (.int .u64 m)).heap[P5]? = _ := (setCell_other ⟨P7, 0, none⟩ _ n5).trans b5
              have hb6 : (w1.setCell ⟨P7, 0, none⟩ (.int .u64 m)).heap[P6]? = _ := (setCell_other ⟨P7, 0, none⟩ _ n6).trans b6
              have hbe : (w1.setCell ⟨P7, 0, none⟩ (.int .u64 m)).heap[E]? = _ := (setCell_other ⟨P7, 0, none⟩ _ n0).trans be
              have hbr : (w1.setCell ⟨P7, 0, none⟩ (.int .u64 m)).heap[E + 1]? = _ := (setCell_other ⟨P7, 0, none⟩ _ n1).trans br
              have hb7 : (w1.setCell ⟨P7, 0, none⟩ (.int .u64 m)).heap[P7]? = some (.cells #[.int .u64 m, .int .i64 (-1), .bool true] 208 (0, 0)) := by rw [setCell_block b7]; rfl
              have H5 := Lib.hid hb5
              have H6 := Lib.hid hb6
              have HbE := Lib.hid hbe
              have HbR := Lib.hid hbr
              have Hb7 := Lib.hid hb7
              clear hb5 hb6 hbe hbr hb7 b5 b6 be br b7
              go_wp2_with fail
              refine (CA.out _ HD.out).mono ?_
              rintro e w2 ⟨rfl, hf2⟩
              have br2 := hf2.kept HbR.out
              have b72 := hf2.kept Hb7.out
              have HF2 := Lib.hid (HD.out.trans hf2)
              clear a0 a1 a2 c0 c1 c2 e0 e1 e2 e3 e4 g0 g1 g2 gf d0 d1 d2 df CA H5 H6 HbE HbR Hb7 HD HF
              obtain ⟨g0, g1, g2, gf, lr2⟩ := cells3 br2
              obtain ⟨d0, d1, d2, df, l72⟩ := cells3 b72
              go_wp2_with fail
              have hX := (setCell_other ⟨P7, 1, none⟩ (.int .i64 lev) n1).trans br2
              obtain ⟨o0, o1, o2, _, _⟩ := cells3 (put3 hX (.int .u64 m) (.int .i64 lev) (.bool true))
              exact bodyPost_ret (v := .agg #[.int .u64 m, .int .i64 lev, .bool true]) (by simp [results, Tryz.results132, go_sem, o0, o1, o2]) rfl ⟨by rw [HR.out], by (repeat' (first | (with_reducible exact HF2.out) | (with_reducible refine Fr0.setCell ?_ _ _ ?_) | (with_reducible refine Fr0.alloc ?_ _) | (with_reducible refine Fr0.drew ?_))) <;> first | omega | (dsimp only; omega) | (simp; done) | (simp; omega)⟩
            · have q8 : lb ≤ la := by omega
              have hmx : 0 ≤ la := by omega
              have hmx2 : la ≤ 1099511627776 := by omega
              have hme : max la lb = la := by omega
              have CA := Lib.hid (fun W (hW : Fr0 w W) => keys_afterI (la) a b hmx hmx2 ha hb W (fun j hj => by rw [hW.cell _ _ (World.block_lt_of_cell? w _ (hT j hj))]; exact hT j hj))
              have HR : Hid (cmpR 2 letter l r times a la b lb = (mixI 2 a b, aftI (la) a b)) := by show _ = _; unfold cmpR; rw [if_neg (by decide), if_pos rfl, if_pos ⟨c1, c2, c3⟩, hme]
              generalize mixI 2 a b = m at *
              generalize aftI (la) a b = lev at *
              clear c1 hmx hmx2 hme c2 c3
              go_wp2_with fail
              refine (CM.out _).mono ?_
              rintro e w1 ⟨rfl, hf1⟩
              generalize hP7 : wc.heap.size = P7 at *
              obtain ⟨HFF, b5, b6, be, br, b7, n5, n6, n0, n1⟩ := cp3 hfr hf1 hP7 hb5 hb6 hbe hbr
              have hs1 := Fr.size hfr
              have hs2 : w.heap.size ≤ E ∧ w.heap.size ≤ P7 := ⟨by have := HE.out; omega, by omega⟩
              have HF := Lib.hid HFF
              clear hP7 l5 l6 le lr HFF hf1 hfr CM hb5 hb6 hbe hbr a0 a1 a2 c0 c1 c2 e0 e1 e2 e3 e4 g0 g1 g2 gf
              obtain ⟨a0, a1, a2, _, l5⟩ := cells3 b5
              obtain ⟨c0, c1, c2, _, l6⟩ := cells3 b6
              obtain ⟨e0, e1, e2, e3, e4, le⟩ := cells5 be
              obtain ⟨g0, g1, g2, gf, lr⟩ := cells3 br
              obtain ⟨d0, d1, d2, df, l7⟩ := cells3 b7
              clear l5 l6 le lr l7
              have HD : Hid (Fr0 w (w1.setCell ⟨P7, 0, none⟩ (.int .u64 m))) := Fr0.setCell HF.out _ _ (by dsimp only; omega)
              have hb5 : (w1.setCell ⟨P7, 0, none⟩ (.int .u64 m)).heap[P5]? = _ := (setCell_other ⟨P7, 0, none⟩ _ n5).trans b5
              have hb6 : (w1.setCell ⟨P7, 0, none⟩ (.int .u64 m)).heap[P6]? = _ := (setCell_other ⟨P7, 0, none⟩ _ n6).trans b6
              have hbe : (w1.setCell ⟨P7, 0, none⟩ (.int .u64 m)).heap[E]? = _ := (setCell_other ⟨P7, 0, none⟩ _ n0).trans be
              have hbr : (w1.setCell ⟨P7, 0, none⟩ (.int .u64 m)).heap[E + 1]? = _ := (setCell_other ⟨P7, 0, none⟩ _ n1).trans br
              have hb7 : (w1.setCell ⟨P7, 0, none⟩ (.int .u64 m)).heap[P7]? = some (.cells #[.int .u64 m, .int .i64 (-1), .bool true] 208 (0, 0)) := by rw [setCell_block b7]; rfl
              have H5 := Lib.hid hb5
              have H6 := Lib.hid hb6
              have HbE := Lib.hid hbe
              have HbR := Lib.hid hbr
              have Hb7 := Lib.hid hb7
              clear hb5 hb6 hbe hbr hb7 b5 b6 be br b7
              go_wp2_with fail
              refine (CA.out _ HD.out).mono ?_
              rintro e w2 ⟨rfl, hf2⟩
              have br2 := hf2.kept HbR.out
              have b72 := hf2.kept Hb7.out
              have HF2 := Lib.hid (HD.out.trans hf2)
              clear a0 a1 a2 c0 c1 c2 e0 e1 e2 e3 e4 g0 g1 g2 gf d0 d1 d2 df CA H5 H6 HbE HbR Hb7 HD HF
              obtain ⟨g0, g1, g2, gf, lr2⟩ := cells3 br2
              obtain ⟨d0, d1, d2, df, l72⟩ := cells3 b72
              go_wp2_with fail
              have hX := (setCell_other ⟨P7, 1, none⟩ (.int .i64 lev) n1).trans br2
              obtain ⟨o0, o1, o2, _, _⟩ := cells3 (put3 hX (.int .u64 m) (.int .i64 lev) (.bool true))
              exact bodyPost_ret (v := .agg #[.int .u64 m, .int .i64 lev, .bool true]) (by simp [results, Tryz.results132, go_sem, o0, o1, o2]) rfl ⟨by rw [HR.out], by (repeat' (first | (with_reducible exact HF2.out) | (with_reducible refine Fr0.setCell ?_ _ _ ?_) | (with_reducible refine Fr0.alloc ?_ _) | (with_reducible refine Fr0.drew ?_))) <;> first | omega | (dsimp only; omega) | (simp; done) | (simp; omega)⟩
          · have q6 : decide (0 ≤ la) = true := decide_eq_true c2
            have q7 : decide (0 ≤ lb) = false := decide_eq_false c3
            have HR : Hid (cmpR 2 letter l r times a la b lb = (mixI 2 a b, -1)) := by show _ = _; unfold cmpR; rw [if_neg (by decide), if_pos rfl, if_neg (fun e => c3 e.2.2)]
            generalize mixI 2 a b = m at *
            clear c1
            go_wp2_with fail
            refine (CM.out _).mono ?_
            rintro e w1 ⟨rfl, hf1⟩
            generalize hP7 : wc.heap.size = P7 at *
            obtain ⟨HFF, b5, b6, be, br, b7, n5, n6, n0, n1⟩ := cp3 hfr hf1 hP7 hb5 hb6 hbe hbr
            have hs1 := Fr.size hfr
            have hs2 : w.heap.size ≤ E ∧ w.heap.size ≤ P7 := ⟨by have := HE.out; omega, by omega⟩
            have HF := Lib.hid HFF
            clear hP7 l5 l6 le lr HFF hf1 hfr CM hb5 hb6 hbe hbr a0 a1 a2 c0 c1 c2 e0 e1 e2 e3 e4 g0 g1 g2 gf
            obtain ⟨a0, a1, a2, _, l5⟩ := cells3 b5
            obtain ⟨c0, c1, c2, _, l6⟩ := cells3 b6
            obtain ⟨e0, e1, e2, e3, e4, le⟩ := cells5 be
            obtain ⟨g0, g1, g2, gf, lr⟩ := cells3 br
            obtain ⟨d0, d1, d2, df, l7⟩ := cells3 b7
            clear b5 b6 be b7
            go_wp2_with fail
            have hX := (setCell_other ⟨P7, 0, none⟩ (.int .u64 m) n1).trans br
            obtain ⟨o0, o1, o2, _, _⟩ := cells3 (put3 hX (.int .u64 m) (.int .i64 (-1)) (.bool true))
            exact bodyPost_ret (v := .agg #[.int .u64 m, .int .i64 (-1), .bool true]) (by simp [results, Tryz.results132, go_sem, o0, o1, o2]) rfl ⟨by rw [HR.out], by (repeat' (first | (with_reducible exact HF.out) | (with_reducible refine Fr0.setCell ?_ _ _ ?_) | (with_reducible refine Fr0.alloc ?_ _) | (with_reducible refine Fr0.drew ?_))) <;> first | omega | (dsimp only; omega) | (simp; done) | (simp; omega)⟩
        · have q6 : decide (0 ≤ la) = false := decide_eq_false c2
          have HR : Hid (cmpR 2 letter l r times a la b lb = (mixI 2 a b, -1)) := by show _ = _; unfold cmpR; rw [if_neg (by decide), if_pos rfl, if_neg (fun e => c2 e.2.1)]
          generalize mixI 2 a b = m at *
          clear c1
          go_wp2_with fail
          refine (CM.out _).mono ?_
          rintro e w1 ⟨rfl, hf1⟩
          generalize hP7 : wc.heap.size = P7 at *
          obtain ⟨HFF, b5, b6, be, br, b7, n5, n6, n0, n1⟩ := cp3 hfr hf1 hP7 hb5 hb6 hbe hbr
          have hs1 := Fr.size hfr
          have hs2 : w.heap.size ≤ E ∧ w.heap.size ≤ P7 := ⟨by have := HE.out; omega, by omega⟩
          have HF := Lib.hid HFF
          clear hP7 l5 l6 le lr HFF hf1 hfr CM hb5 hb6 hbe hbr a0 a1 a2 c0 c1 c2 e0 e1 e2 e3 e4 g0 g1 g2 gf
          obtain ⟨a0, a1, a2, _, l5⟩ := cells3 b5
          obtain ⟨c0, c1, c2, _, l6⟩ := cells3 b6
          obtain ⟨e0, e1, e2, e3, e4, le⟩ := cells5 be
          obtain ⟨g0, g1, g2, gf, lr⟩ := cells3 br
          obtain ⟨d0, d1, d2, df, l7⟩ := cells3 b7
          clear b5 b6 be b7
          go_wp2_with fail
          have hX := (setCell_other ⟨P7, 0, none⟩ (.int .u64 m) n1).trans br
          obtain ⟨o0, o1, o2, _, _⟩ := cells3 (put3 hX (.int .u64 m) (.int .i64 (-1)) (.bool true))
          exact bodyPost_ret (v := .agg #[.int .u64 m, .int .i64 (-1), .bool true]) (by simp [results, Tryz.results132, go_sem, o0, o1, o2]) rfl ⟨by rw [HR.out], by (repeat' (first | (with_reducible exact HF.out) | (with_reducible refine Fr0.setCell ?_ _ _ ?_) | (with_reducible refine Fr0.alloc ?_ _) | (with_reducible refine Fr0.drew ?_))) <;> first | omega | (dsimp only; omega) | (simp; done) | (simp; omega)⟩
    · obtain rfl : kd = 3 := by omega
      have CM := Lib.hid (fun W => mod_Mix 3 a times (by omega) (by omega) ha.1 (by omega) ht.1 (by omega) W)
      clear k1 k2
      by_cases c2 : 0 ≤ la
      · have q6 : decide (0 ≤ la) = true := decide_eq_true c2
        by_cases c3 : la % 2 = 0
        · have q7 : (la.tmod 2 == 0) = true := beq_iff_eq.2 (by rw [Int.tmod_eq_emod_of_nonneg c2]; exact c3)
          have HR : Hid (cmpR 3 letter l r times a la b lb = (mixI 3 a times, la + 1)) := by show _ = _; unfold cmpR; rw [if_neg (by decide), if_neg (by decide), if_pos ⟨c2, c3⟩]
          generalize mixI 3 a times = m at *
          go_wp2_with fail
          refine (CM.out _).mono ?_
          rintro e w1 ⟨rfl, hf1⟩
          generalize hP7 : wc.heap.size = P7 at *
          obtain ⟨HFF, b5, b6, be, br, b7, n5, n6, n0, n1⟩ := cp3 hfr hf1 hP7 hb5 hb6 hbe hbr
          have hs1 := Fr.size hfr
          have hs2 : w.heap.size ≤ E ∧ w.heap.size ≤ P7 := ⟨by have := HE.out; omega, by omega⟩
          have HF := Lib.hid HFF
          clear hP7 l5 l6 le lr HFF hf1 hfr CM hb5 hb6 hbe hbr a0 a1 a2 c0 c1 c2 e0 e1 e2 e3 e4 g0 g1 g2 gf
          obtain ⟨a0, a1, a2, _, l5⟩ := cells3 b5
          obtain ⟨c0, c1, c2, _, l6⟩ := cells3 b6
          obtain ⟨e0, e1, e2, e3, e4, le⟩ := cells5 be
          obtain ⟨g0, g1, g2, gf, lr⟩ := cells3 br
          obtain ⟨d0, d1, d2, df, l7⟩ := cells3 b7
          clear b5 b6 be b7
          go_wp2_with fail
          have hX := (setCell_other ⟨P7, 1, none⟩ (.int .i64 (la + 1)) n1).trans ((setCell_other ⟨P7, 0, none⟩ (.int .u64 m) n1).trans br)
          obtain ⟨o0, o1, o2, _, _⟩ := cells3 (put3 hX (.int .u64 m) (.int .i64 (la + 1)) (.bool true))
          exact bodyPost_ret (v := .agg #[.int .u64 m, .int .i64 (la + 1), .bool true]) (by simp [results, Tryz.results132, go_sem, o0, o1, o2]) rfl ⟨by rw [HR.out], by (repeat' (first | (with_reducible exact HF.out) | (with_reducible refine Fr0.setCell ?_ _ _ ?_) | (with_reducible refine Fr0.alloc ?_ _) | (with_reducible refine Fr0.drew ?_))) <;> first | omega | (dsimp only; omega) | (simp; done) | (simp; omega)⟩
        · have q7 : (la.tmod 2 == 0) = false := beq_eq_false_iff_ne.2 (by rw [Int.tmod_eq_emod_of_nonneg c2]; exact c3)
          have HR : Hid (cmpR 3 letter l r times a la b lb = (mixI 3 a times, -1)) := by show _ = _; unfold cmpR; rw [if_neg (by decide), if_neg (by decide), if_neg (fun e => c3 e.2)]
          generalize mixI 3 a times = m at *
          go_wp2_with fail
          refine (CM.out _).mono ?_
          rintro e w1 ⟨rfl, hf1⟩
          generalize hP7 : wc.heap.size = P7 at *
          obtain ⟨HFF, b5, b6, be, br, b7, n5, n6, n0, n1⟩ := cp3 hfr hf1 hP7 hb5 hb6 hbe hbr
          have hs1 := Fr.size hfr
          have hs2 : w.heap.size ≤ E ∧ w.heap.size ≤ P7 := ⟨by have := HE.out; omega, by omega⟩
          have HF := Lib.hid HFF
          clear hP7 l5 l6 le lr HFF hf1 hfr CM hb5 hb6 hbe hbr a0 a1 a2 c0 c1 c2 e0 e1 e2 e3 e4 g0 g1 g2 gf
          obtain ⟨a0, a1, a2, _, l5⟩ := cells3 b5
          obtain ⟨c0, c1, c2, _, l6⟩ := cells3 b6
          obtain ⟨e0, e1, e2, e3, e4, le⟩ := cells5 be
          obtain ⟨g0, g1, g2, gf, lr⟩ := cells3 br
          obtain ⟨d0, d1, d2, df, l7⟩ := cells3 b7
          clear b5 b6 be b7
          go_wp2_with fail
          have hX := (setCell_other ⟨P7, 0, none⟩ (.int .u64 m) n1).trans br
          obtain ⟨o0, o1, o2, _, _⟩ := cells3 (put3 hX (.int .u64 m) (.int .i64 (-1)) (.bool true))
          exact bodyPost_ret (v := .agg #[.int .u64 m, .int .i64 (-1), .bool true]) (by simp [results, Tryz.results132, go_sem, o0, o1, o2]) rfl ⟨by rw [HR.out], by (repeat' (first | (with_reducible exact HF.out) | (with_reducible refine Fr0.setCell ?_ _ _ ?_) | (with_reducible refine Fr0.alloc ?_ _) | (with_reducible refine Fr0.drew ?_))) <;> first | omega | (dsimp only; omega) | (simp; done) | (simp; omega)⟩
      · have q6 : decide (0 ≤ la) = false := decide_eq_false c2
        have HR : Hid (cmpR 3 letter l r times a la b lb = (mixI 3 a times, -1)) := by show _ = _; unfold cmpR; rw [if_neg (by decide), if_neg (by decide), if_neg (fun e => c2 e.1)]
        generalize mixI 3 a times = m at *
        go_wp2_with fail
        refine (CM.out _).mono ?_
        rintro e w1 ⟨rfl, hf1⟩
        generalize hP7 : wc.heap.size = P7 at *
        obtain ⟨HFF, b5, b6, be, br, b7, n5, n6, n0, n1⟩ := cp3 hfr hf1 hP7 hb5 hb6 hbe hbr
        have hs1 := Fr.size hfr
        have hs2 : w.heap.size ≤ E ∧ w.heap.size ≤ P7 := ⟨by have := HE.out; omega, by omega⟩
        have HF := Lib.hid HFF
        clear hP7 l5 l6 le lr HFF hf1 hfr CM hb5 hb6 hbe hbr a0 a1 a2 c0 c1 c2 e0 e1 e2 e3 e4 g0 g1 g2 gf
        obtain ⟨a0, a1, a2, _, l5⟩ := cells3 b5
        obtain ⟨c0, c1, c2, _, l6⟩ := cells3 b6
        obtain ⟨e0, e1, e2, e3, e4, le⟩ := cells5 be
        obtain ⟨g0, g1, g2, gf, lr⟩ := cells3 br
        obtain ⟨d0, d1, d2, df, l7⟩ := cells3 b7
        clear b5 b6 be b7
        go_wp2_with fail
        have hX := (setCell_other ⟨P7, 0, none⟩ (.int .u64 m) n1).trans br
        obtain ⟨o0, o1, o2, _, _⟩ := cells3 (put3 hX (.int .u64 m) (.int .i64 (-1)) (.bool true))
        exact bodyPost_ret (v := .agg #[.int .u64 m, .int .i64 (-1), .bool true]) (by simp [results, Tryz.results132, go_sem, o0, o1, o2]) rfl ⟨by rw [HR.out], by (repeat' (first | (with_reducible exact HF.out) | (with_reducible refine Fr0.setCell ?_ _ _ ?_) | (with_reducible refine Fr0.alloc ?_ _) | (with_reducible refine Fr0.drew ?_))) <;> first | omega | (dsimp only; omega) | (simp; done) | (simp; omega)⟩
end Go.Proofs.YtgldjpldldknoaaGreatDoor

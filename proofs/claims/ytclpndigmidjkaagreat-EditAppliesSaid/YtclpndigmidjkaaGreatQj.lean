/- The walks of edit.order and of arrange in all kinds. -/
import Derived.Test.YtclpndigmidjkaaGreatQi
import Derived.Test.YtclpndigmidjkaaGreatQd
import Derived.Test.YtclpndigmidjkaaGreatQSpl3
import Derived.Test.YtclpndigmidjkaaGreatQMk9
import Derived.Deep.RegionHeld3
import Derived.Deep.DeepCutAuto
import Derived.Deep.LoopGhost
import Derived.Deep.DeepMust
set_option linter.unusedSimpArgs false
set_option linter.unusedVariables false
namespace Go.Proofs.YtclpndigmidjkaaGreat
open Go.RowKit

theorem intsT {T : TypeId} (h1 : T ≠ 121) (h2 : T ≠ 183) (w : World) (cs : Array Value) (xs : List Int) (h : cs.toList = xs.map fun x => Value.int .i64 x) : IntsAt (w.alloc (.cells cs T (0, 0))) (some ⟨w.heap.size, 0, none⟩) xs := by
  intro i hi
  refine ⟨_, _, _, _, _, rfl, alloc_at _ _ _ rfl, h1, h2, ?_⟩
  rw [Nat.zero_add, ← Array.getElem?_toList, h, List.getElem?_map, List.getElem?_eq_getElem hi]
  rfl

set_option maxRecDepth 100000 in
set_option maxHeartbeats 1000000 in
theorem edit_order {w : World} {a b : Option Addr} {cap cap2 : Nat} {xs js : List Int} (hX : IntsAt w a xs) (hJ : IntsAt w b js) (hjs : ∀ j ∈ js, 0 ≤ j ∧ j < xs.length) (hl : xs.length ≤ 1000000) (hl2 : js.length ≤ 1000000) :
    Calls Tryz.prog 108 #[.slice a xs.length cap, .nilIface, .slice b js.length cap2] w fun e w' => ∃ v, e = .returned (.tuple #[v, .nilIface]) ∧ OwnI 39 w w' v (js.map fun j => xs.getD j.toNat 0) := by
  have HX := Lib.hid hX
  have HJ := Lib.hid hJ
  have HJS := Lib.hid hjs
  clear hX hJ hjs
  go_enter Tryz.func108, Tryz.ntmps108
  go_wp2_with fail
  go_loopw [8, 16] (fun v i wr => ∃ (k : Nat) (ys : List Int), k ≤ js.length ∧ i = .int .i64 k ∧ (∃ a cap, v = .slice a ys.length cap) ∧ OwnI 39 w wr v ys ∧ Hid (ys = (js.take k).map fun j => xs.getD j.toNat 0)) (fun _ i _ => js.length - (intOf i).toNat)
  case atStart => exact ⟨0, [], Nat.zero_le _, rfl, ⟨_, _, rfl⟩, OwnI.nil _ (Fr0.refl w), rfl⟩
  case round =>
    obtain ⟨k, ys, hk, rfl, ⟨va, vcap, rfl⟩, hO, HY⟩ := hrel
    by_cases hlt : k < js.length
    · obtain ⟨jb, joff, rfl, ljb, hjc⟩ := (HJ.out.kept0 hO.fr).cell k hlt
      obtain ⟨h1, h2⟩ := HJS.out js[k] (List.getElem_mem hlt)
      have HYN : Hid (ys ++ [xs.getD js[k].toNat 0] = (js.take (k + 1)).map fun j => xs.getD j.toNat 0) := by
        show _ = _
        rw [List.take_succ_eq_append_getElem hlt, List.map_append, HY.out]; rfl
      obtain ⟨i, hi⟩ : ∃ i : Nat, js[k] = (i : Int) := ⟨js[k].toNat, by omega⟩
      have hix : i < xs.length := by omega
      obtain ⟨xb, xoff, rfl, lxb, hxc⟩ := (HX.out.kept0 hO.fr).cell i hix
      rw [hi] at hjc HYN
      have hyl : ys.length ≤ 1000000 := by rw [HY.out]; simp; omega
      have hgd : xs.getD (i : Int).toNat 0 = xs[i] := by simp [List.getD_eq_getElem?_getD, hix]
      rw [hgd] at HYN
      have q1 : (0 : Int) ≤ (i : Int) := by omega
      have q2 : (i : Int) < (xs.length : Int) := by omega
      have q3 : (0 : Int) ≤ (k : Int) := by omega
      have q4 : (k : Int) < (js.length : Int) := by omega
      clear hi h1 h2 hgd HY
      generalize xs[i] = y at *
      go_wp2_with (at_builtin; go_must (refine wpList_push rt_id rfl _ _ rfl _ _ rfl hO 39 y 1 _ rfl rfl hyl ?_; intro v' w4 hO4 hg4 hat4; obtain ⟨oa, oc, rfl⟩ := hO4.form; have HO4 := Lib.hid hO4; clear hg4 hat4 hO4))
      go_roundw
      case rel => exact ⟨k + 1, ys ++ [y], by omega, by go_num, ⟨oa, oc, by rw [List.length_append]; rfl⟩, by have h := HO4.out; rw [show (ys ++ [y]).length = ys.length + 1 by simp] at h; exact h, HYN⟩
      case measure => simp [intOf]; omega
    · have HYE : Hid (ys = js.map fun j => xs.getD j.toNat 0) := by
        show _ = _
        have h := HY.out
        rw [List.take_of_length_le (by omega)] at h
        exact h
      have HO := Lib.hid hO
      have q4 : decide ((k : Int) < (js.length : Int)) = false := decide_eq_false (by omega)
      clear hO HY
      go_wp2_with fail
      go_ret2
      exact ⟨_, rfl, by rw [← HYE.out]; exact HO.out⟩

def cutT (t : List Int) (f n : Int) : List Int := cutL t f n

/-- The parts of the edited text. -/
def arrT (k a n to_ : Int) (t u : List Int) : List (List Int) :=
  if k = 4 then [t.take to_.toNat, cutL t a n, t.drop to_.toNat]
  else if k = 5 then (if to_ ≤ a then [cutL t 0 to_, cutL t a n, cutL t to_ (a - to_), cutL t (a + n) (t.length - (a + n))] else [cutL t 0 a, cutL t (a + n) (to_ - (a + n)), cutL t a n, cutL t to_ (t.length - to_)])
  else if k = 1 then [t.take a.toNat, u, t.drop a.toNat]
  else [cutL t 0 a, u, cutL t (a + n) (t.length - (a + n))]

theorem pieces2 (t : List Int) (a b : Int) : pieces t [a, b] = [cutL t 0 a, cutL t a (b - a), cutL t b (t.length - b)] := by
  show [cutL t 0 (a - 0), cutL t a (b - a), cutL t b (t.length - b)] = _
  rw [Int.sub_zero]
theorem pieces3 (t : List Int) (a b c : Int) : pieces t [a, b, c] = [cutL t 0 a, cutL t a (b - a), cutL t b (c - b), cutL t c (t.length - c)] := by
  show [cutL t 0 (a - 0), cutL t a (b - a), cutL t b (c - b), cutL t c (t.length - c)] = _
  rw [Int.sub_zero]
theorem incr2 {a b T : Int} (h0 : 0 ≤ a) (h1 : a ≤ b) (h2 : b ≤ T) : Incr [a, b] T := by
  intro k hk
  match k, hk with
  | 0, _ => exact h0
  | 1, _ => exact h1
  | 2, _ => exact h2
  | k + 3, hk => simp at hk
theorem incr3 {a b c T : Int} (h0 : 0 ≤ a) (h1 : a ≤ b) (h2 : b ≤ c) (h3 : c ≤ T) : Incr [a, b, c] T := by
  intro k hk
  match k, hk with
  | 0, _ => exact h0
  | 1, _ => exact h1
  | 2, _ => exact h2
  | 3, _ => exact h3
  | k + 4, hk => simp at hk

theorem AllB.three {L : List Ent} {out : List Int} {t1 t2 t3 : List Int} (h : AllB L out [t1, t2, t3]) : ∃ x y z, out = [x, y, z] ∧ (∃ d, BalZ L x t1 d) ∧ (∃ d, BalZ L y t2 d) ∧ (∃ d, BalZ L z t3 d) := by
  match out, h with
  | [x, y, z], ⟨h1, h2, h3, _⟩ => exact ⟨x, y, z, rfl, h1, h2, h3⟩
theorem AllB.four {L : List Ent} {out : List Int} {t1 t2 t3 t4 : List Int} (h : AllB L out [t1, t2, t3, t4]) : ∃ x y z u, out = [x, y, z, u] ∧ (∃ d, BalZ L x t1 d) ∧ (∃ d, BalZ L y t2 d) ∧ (∃ d, BalZ L z t3 d) ∧ (∃ d, BalZ L u t4 d) := by
  match out, h with
  | [x, y, z, u], ⟨h1, h2, h3, h4, _⟩ => exact ⟨x, y, z, u, rfl, h1, h2, h3, h4⟩

set_option maxRecDepth 100000 in
set_option maxHeartbeats 1000000 in
theorem edit_arrange_copy {B : Nat} {w : World} {p mb : Nat} {most : Int} {L : List Ent} {id : Int} {t u : List Int} {d a n to_ x : Int} (hR : Room B w p mb most L (44 * d.toNat + 4)) (hb : BalZ L id t d) (h0 : 0 ≤ a) (h1 : 0 ≤ n) (h2 : a + n ≤ t.length) (h3 : 0 ≤ to_) (h4 : to_ ≤ t.length) :
    Calls Tryz.prog 79 #[.pointer (some ⟨p, 0, none⟩), .int .i64 id, .agg #[.int .i64 4, .int .i64 a, .int .i64 n, .int .i64 to_, .int .i64 x]] w (ArPost B w p mb most L (arrT 4 a n to_ t u) (44 * d.toNat + 4)) := by
  have CS := Lib.hid (fun W (hW : Fr0 w W) => spl_Section ((hR.kept0 hW).less (m := 11 * d.toNat + 1) (by omega)) hb h0 h1 h2)
  have d0 := (hR.sok.at id hb.known).2.1
  rw [hb.depth] at d0
  have HR := Lib.hid hR
  have HB := Lib.hid hb
  clear hR hb
  go_enter Tryz.func79, Tryz.ntmps79
  go_wp2_with fail
  refine (CS.out _ ((Fr0.refl w).alloc _)).mono ?_
  rintro e w2 ⟨L1, y, dy, k, rfl, hS1, hK1, g, by1, hD1⟩
  have hk1 : k ≤ 11 * d.toNat + 1 := by have := hD1.2.2; omega
  have hK2 := (Kp.of0 ((Fr0.refl w).alloc _)).trans hK1
  have hR2 := HR.out.next (k := 8 * d.toNat) hS1 hK2 g (by omega)
  have CS2 := Lib.hid (spl_Split hR2 (g.balz HR.out.dok HB.out) h3 h4)
  have hr2 := hK1.cells _ _ _ _ (alloc_at w _ _ rfl) (by decide) (by decide)
  obtain ⟨r1, r2, r3, r4, r5, lr⟩ := cells5 hr2
  have HG := Lib.hid g
  have HK := Lib.hid hK2
  have HY := Lib.hid by1
  have HDK := Lib.hid hR2.dok
  clear hS1 hK1 g by1 hD1 hK2 hR2 CS hr2
  go_wp2_with fail
  refine CS2.out.mono ?_
  rintro e w3 ⟨L2, l, r, dl, dr, k2, rfl, hS2, hK3, g2, bl, br, hl1, hr1, hk2⟩
  have HP := Lib.hid (show ArPost B w p mb most L (arrT 4 a n to_ t u) (44 * d.toNat + 4) (.returned (.tuple #[.slice (some ⟨w3.heap.size, 0, none⟩) 3 3, .nilIface])) (w3.alloc (.cells #[.int .i64 l, .int .i64 y, .int .i64 r] 39 (0, 0))) from
    ⟨L2, [l, y, r], some ⟨w3.heap.size, 0, none⟩, 3, k + k2, rfl, hS2.kept0 ((Fr0.refl w3).alloc _), (HK.out.trans hK3).alloc _, HG.out.trans g2 (Nat.le_refl _), by omega, ints3 w3 l y r, ⟨⟨dl, bl⟩, ⟨dy, g2.balz HDK.out HY.out⟩, ⟨dr, br⟩, trivial⟩⟩)
  clear hS2 hK3 g2 bl br CS2
  go_wp2_with fail
  go_ret2
  exact HP.out


set_option maxRecDepth 100000 in
set_option maxHeartbeats 2000000 in
theorem edit_arrange_up {B : Nat} {w : World} {p mb : Nat} {most : Int} {L : List Ent} {id : Int} {t u : List Int} {d a n to_ x : Int} (hR : Room B w p mb most L (44 * d.toNat + 4)) (hb : BalZ L id t d) (h0 : 0 ≤ a) (h1 : 0 ≤ n) (h2 : a + n ≤ t.length) (h3 : 0 ≤ to_) (h4 : to_ ≤ t.length) (h5 : to_ ≤ a) :
    Calls Tryz.prog 79 #[.pointer (some ⟨p, 0, none⟩), .int .i64 id, .agg #[.int .i64 5, .int .i64 a, .int .i64 n, .int .i64 to_, .int .i64 x]] w (ArPost B w p mb most L (arrT 5 a n to_ t u) (44 * d.toNat + 4)) := by
  have hle := (hR.sok.at id hb.known).1.len1
  have hln := hb.len hR.dok hR.sok
  have hle2 : (t.length : Int) ≤ 1152921504606846976 := by omega
  have CS := Lib.hid (fun W c (hW : Fr0 w W) (hI : IntsAt W c [to_, a, a + n]) => spl_Cut (cap := 3) ((hR.kept0 hW).less (m := ([to_, a, a + n].length + 1) * (11 * d.toNat + 1)) (by simp; omega)) hb hI (by simp) (incr3 h3 h5 (by omega) h2))
  have HT := Lib.hid (show arrT 5 a n to_ t u = [cutL t 0 to_, cutL t a n, cutL t to_ (a - to_), cutL t (a + n) (t.length - (a + n))] from by unfold arrT; rw [if_neg (by omega), if_pos rfl, if_pos h5])
  have e1 : decide (to_ ≤ a) = true := decide_eq_true h5
  clear hR hb hle hln
  go_enter Tryz.func79, Tryz.ntmps79
  go_wp2_with fail
  have hI0 := intsT (T := 3) (by decide) (by decide) (w.alloc (.cells #[.int .i64 5, .int .i64 a, .int .i64 n, .int .i64 to_, .int .i64 x] 78 (0, 0))) #[.int .i64 (to_), .int .i64 (a), .int .i64 (a + n)] [to_, a, a + n] rfl
  have hz0 : (w.alloc (.cells #[.int .i64 5, .int .i64 a, .int .i64 n, .int .i64 to_, .int .i64 x] 78 (0, 0))).heap.size = w.heap.size + 1 := by simp
  rw [hz0] at hI0
  refine (CS.out _ _ (((Fr0.refl w).alloc _).alloc _) hI0).mono ?_
  clear hI0 hz0
  rintro e w2 ⟨L1, out, v, k, rfl, hS1, hK1, g, hk, ho1, hA1⟩
  rw [pieces3] at hA1
  obtain ⟨x1, x2, x3, x4, rfl, b1, b2, b3, b4⟩ := hA1.four
  obtain ⟨oa, ocap, hv, hI1⟩ := ints_of_own ho1 (by decide) (by decide)
  subst hv
  have HK := Lib.hid ((Kp.of0 (((Fr0.refl w).alloc (.cells #[.int .i64 5, .int .i64 a, .int .i64 n, .int .i64 to_, .int .i64 x] 78 (0, 0))).alloc (.cells #[.int .i64 (to_), .int .i64 (a), .int .i64 (a + n)] 3 (0, 0)))).trans hK1)
  have HI1 := Lib.hid hI1
  have HS1 := Lib.hid hS1
  have HG := Lib.hid g
  have hk2 : k ≤ 44 * d.toNat + 4 := by simp at hk; omega
  have HB := Lib.hid (⟨b1, b2, b3, b4⟩ : _ ∧ _ ∧ _ ∧ _)
  clear ho1 hA1 b1 b2 b3 b4 hI1 hS1 g hK1 CS hk
  go_wp2_with fail
  have CO := Lib.hid (edit_order (w := w2.alloc (.cells #[.int .i64 0, .int .i64 2, .int .i64 1, .int .i64 3] 3 (0, 0))) (cap := ocap) (cap2 := 4) (xs := [x1, x2, x3, x4]) (js := [0, 2, 1, 3]) (HI1.out.kept0 ((Fr0.refl w2).alloc _)) (intsT (T := 3) (by decide) (by decide) w2 #[.int .i64 0, .int .i64 2, .int .i64 1, .int .i64 3] [0, 2, 1, 3] rfl) (by intro j hj; simp only [List.mem_cons, List.not_mem_nil, or_false] at hj; simp only [List.length_cons, List.length_nil]; omega) (by simp) (by simp))
  refine CO.out.mono ?_
  rintro e w3 ⟨v3, rfl, hO3⟩
  have hO3r : w3.ownsRow w2.heap.size 39 1 v3 [x1, x3, x2, x4].length ([x1, x3, x2, x4].map fun x => Value.int .i64 x) := owns_lowI hO3.row (by simp)
  obtain ⟨pa, pcap, hv3, hI3⟩ := ints_of_own hO3r (by decide) (by decide)
  subst hv3
  have HP : Hid (ArPost B w p mb most L (arrT 5 a n to_ t u) (44 * d.toNat + 4) (.returned (.tuple #[.slice pa [x1, x3, x2, x4].length pcap, .nilIface])) w3) := by
    obtain ⟨b1, b2, b3, b4⟩ := HB.out
    have hf3 : Fr0 w2 w3 := ((Fr0.refl w2).alloc _).trans hO3.fr
    refine ⟨L1, [x1, x3, x2, x4], pa, pcap, k, rfl, HS1.out.kept0 hf3, HK.out.trans (Kp.of0 hf3), HG.out, hk2, hI3, ?_⟩
    rw [HT.out]
    exact ⟨b1, (by rw [show a + n - a = n by omega] at b3; exact b3), b2, b4, trivial⟩
  clear hO3 hO3r hI3 CO
  go_wp2_with fail
  go_ret2
  exact HP.out

set_option maxRecDepth 100000 in
set_option maxHeartbeats 2000000 in
theorem edit_arrange_down {B : Nat} {w : World} {p mb : Nat} {most : Int} {L : List Ent} {id : Int} {t u : List Int} {d a n to_ x : Int} (hR : Room B w p mb most L (44 * d.toNat + 4)) (hb : BalZ L id t d) (h0 : 0 ≤ a) (h1 : 0 ≤ n) (h2 : a + n ≤ t.length) (h3 : 0 ≤ to_) (h4 : to_ ≤ t.length) (h5 : a < to_) (h6 : a + n ≤ to_) :
    Calls Tryz.prog 79 #[.pointer (some ⟨p, 0, none⟩), .int .i64 id, .agg #[.int .i64 5, .int .i64 a, .int .i64 n, .int .i64 to_, .int .i64 x]] w (ArPost B w p mb most L (arrT 5 a n to_ t u) (44 * d.toNat + 4)) := by
  have hle := (hR.sok.at id hb.known).1.len1
  have hln := hb.len hR.dok hR.sok
  have hle2 : (t.length : Int) ≤ 1152921504606846976 := by omega
  have CS := Lib.hid (fun W c (hW : Fr0 w W) (hI : IntsAt W c [a, a + n, to_]) => spl_Cut (cap := 3) ((hR.kept0 hW).less (m := ([a, a + n, to_].length + 1) * (11 * d.toNat + 1)) (by simp; omega)) hb hI (by simp) (incr3 h0 (by omega) h6 h4))
  have HT := Lib.hid (show arrT 5 a n to_ t u = [cutL t 0 a, cutL t (a + n) (to_ - (a + n)), cutL t a n, cutL t to_ (t.length - to_)] from by unfold arrT; rw [if_neg (by omega), if_pos rfl, if_neg (by omega)])
  have e1 : decide (to_ ≤ a) = false := decide_eq_false (by omega)
  clear hR hb hle hln
  go_enter Tryz.func79, Tryz.ntmps79
  go_wp2_with fail
  have hI0 := intsT (T := 3) (by decide) (by decide) (w.alloc (.cells #[.int .i64 5, .int .i64 a, .int .i64 n, .int .i64 to_, .int .i64 x] 78 (0, 0))) #[.int .i64 (a), .int .i64 (a + n), .int .i64 (to_)] [a, a + n, to_] rfl
  have hz0 : (w.alloc (.cells #[.int .i64 5, .int .i64 a, .int .i64 n, .int .i64 to_, .int .i64 x] 78 (0, 0))).heap.size = w.heap.size + 1 := by simp
  rw [hz0] at hI0
  refine (CS.out _ _ (((Fr0.refl w).alloc _).alloc _) hI0).mono ?_
  clear hI0 hz0
  rintro e w2 ⟨L1, out, v, k, rfl, hS1, hK1, g, hk, ho1, hA1⟩
  rw [pieces3] at hA1
  obtain ⟨x1, x2, x3, x4, rfl, b1, b2, b3, b4⟩ := hA1.four
  obtain ⟨oa, ocap, hv, hI1⟩ := ints_of_own ho1 (by decide) (by decide)
  subst hv
  have HK := Lib.hid ((Kp.of0 (((Fr0.refl w).alloc (.cells #[.int .i64 5, .int .i64 a, .int .i64 n, .int .i64 to_, .int .i64 x] 78 (0, 0))).alloc (.cells #[.int .i64 (a), .int .i64 (a + n), .int .i64 (to_)] 3 (0, 0)))).trans hK1)
  have HI1 := Lib.hid hI1
  have HS1 := Lib.hid hS1
  have HG := Lib.hid g
  have hk2 : k ≤ 44 * d.toNat + 4 := by simp at hk; omega
  have HB := Lib.hid (⟨b1, b2, b3, b4⟩ : _ ∧ _ ∧ _ ∧ _)
  clear ho1 hA1 b1 b2 b3 b4 hI1 hS1 g hK1 CS hk
  go_wp2_with fail
  have CO := Lib.hid (edit_order (w := w2.alloc (.cells #[.int .i64 0, .int .i64 2, .int .i64 1, .int .i64 3] 3 (0, 0))) (cap := ocap) (cap2 := 4) (xs := [x1, x2, x3, x4]) (js := [0, 2, 1, 3]) (HI1.out.kept0 ((Fr0.refl w2).alloc _)) (intsT (T := 3) (by decide) (by decide) w2 #[.int .i64 0, .int .i64 2, .int .i64 1, .int .i64 3] [0, 2, 1, 3] rfl) (by intro j hj; simp only [List.mem_cons, List.not_mem_nil, or_false] at hj; simp only [List.length_cons, List.length_nil]; omega) (by simp) (by simp))
  refine CO.out.mono ?_
  rintro e w3 ⟨v3, rfl, hO3⟩
  have hO3r : w3.ownsRow w2.heap.size 39 1 v3 [x1, x3, x2, x4].length ([x1, x3, x2, x4].map fun x => Value.int .i64 x) := owns_lowI hO3.row (by simp)
  obtain ⟨pa, pcap, hv3, hI3⟩ := ints_of_own hO3r (by decide) (by decide)
  subst hv3
  have HP : Hid (ArPost B w p mb most L (arrT 5 a n to_ t u) (44 * d.toNat + 4) (.returned (.tuple #[.slice pa [x1, x3, x2, x4].length pcap, .nilIface])) w3) := by
    obtain ⟨b1, b2, b3, b4⟩ := HB.out
    have hf3 : Fr0 w2 w3 := ((Fr0.refl w2).alloc _).trans hO3.fr
    refine ⟨L1, [x1, x3, x2, x4], pa, pcap, k, rfl, HS1.out.kept0 hf3, HK.out.trans (Kp.of0 hf3), HG.out, hk2, hI3, ?_⟩
    rw [HT.out]
    exact ⟨b1, b3, (by rw [show a + n - a = n by omega] at b2; exact b2), b4, trivial⟩
  clear hO3 hO3r hI3 CO
  go_wp2_with fail
  go_ret2
  exact HP.out


set_option maxRecDepth 100000 in
set_option maxHeartbeats 2000000 in
theorem edit_arrange_repl {B : Nat} {w : World} {p mb : Nat} {most : Int} {L : List Ent} {id kd : Int} {t u : List Int} {d du a n to_ x : Int} (hkd : kd = 2 ∨ kd = 3) (hR : Room B w p mb most L (44 * d.toNat + 4)) (hb : BalZ L id t d) (hx : BalZ L x u du) (h0 : 0 ≤ a) (h1 : 0 ≤ n) (h2 : a + n ≤ t.length) :
    Calls Tryz.prog 79 #[.pointer (some ⟨p, 0, none⟩), .int .i64 id, .agg #[.int .i64 kd, .int .i64 a, .int .i64 n, .int .i64 to_, .int .i64 x]] w (ArPost B w p mb most L (arrT kd a n to_ t u) (44 * d.toNat + 4)) := by
  have hle := (hR.sok.at id hb.known).1.len1
  have hln := hb.len hR.dok hR.sok
  have hle2 : (t.length : Int) ≤ 1152921504606846976 := by omega
  have CS := Lib.hid (fun W c (hW : Fr0 w W) (hI : IntsAt W c [a, a + n]) => spl_Cut (cap := 2) ((hR.kept0 hW).less (m := ([a, a + n].length + 1) * (11 * d.toNat + 1)) (by simp; omega)) hb hI (by simp) (incr2 h0 (by omega) h2))
  have HT := Lib.hid (show arrT kd a n to_ t u = [cutL t 0 a, u, cutL t (a + n) (t.length - (a + n))] from by unfold arrT; rw [if_neg (by omega), if_neg (by omega), if_neg (by omega)])
  have e1 : (kd == 1) = false := beq_eq_false_iff_ne.2 (by omega)
  have e4 : (kd == 4) = false := beq_eq_false_iff_ne.2 (by omega)
  have e5 : (kd == 5) = false := beq_eq_false_iff_ne.2 (by omega)
  have HX := Lib.hid hx
  have HDK := Lib.hid hR.dok
  clear hR hb hle hln hkd hx
  go_enter Tryz.func79, Tryz.ntmps79
  go_wp2_with fail
  have hI0 := intsT (T := 3) (by decide) (by decide) (w.alloc (.cells #[.int .i64 kd, .int .i64 a, .int .i64 n, .int .i64 to_, .int .i64 x] 78 (0, 0))) #[.int .i64 a, .int .i64 (a + n)] [a, a + n] rfl
  have hz0 : (w.alloc (.cells #[.int .i64 kd, .int .i64 a, .int .i64 n, .int .i64 to_, .int .i64 x] 78 (0, 0))).heap.size = w.heap.size + 1 := by simp
  rw [hz0] at hI0
  refine (CS.out _ _ (((Fr0.refl w).alloc _).alloc _) hI0).mono ?_
  clear hI0 hz0
  rintro e w2 ⟨L1, out, v, k, rfl, hS1, hK1, g, hk, ho1, hA1⟩
  rw [pieces2] at hA1
  obtain ⟨x1, x2, x3, rfl, b1, b2, b3⟩ := hA1.three
  obtain ⟨oa, ocap, hv, hI1⟩ := ints_of_own ho1 (by decide) (by decide)
  subst hv
  have hr2 := hK1.cells _ _ _ _ (((Fr0.refl _).alloc (.cells #[.int .i64 a, .int .i64 (a + n)] 3 (0, 0))).kept (alloc_at w (.cells #[.int .i64 kd, .int .i64 a, .int .i64 n, .int .i64 to_, .int .i64 x] 78 (0, 0)) _ rfl)) (by decide) (by decide)
  have HK := Lib.hid ((Kp.of0 (((Fr0.refl w).alloc (.cells #[.int .i64 kd, .int .i64 a, .int .i64 n, .int .i64 to_, .int .i64 x] 78 (0, 0))).alloc (.cells #[.int .i64 a, .int .i64 (a + n)] 3 (0, 0)))).trans hK1)
  have HS1 := Lib.hid hS1
  have HG := Lib.hid g
  have hk2 : k ≤ 44 * d.toNat + 4 := by simp at hk; omega
  have HB := Lib.hid (⟨b1, g.balz HDK.out HX.out, b3⟩ : _ ∧ _ ∧ _)
  obtain ⟨ob, off, rfl, lob, z0⟩ := hI1.cell 0 (by simp)
  obtain ⟨_, _, hbb, _, z2⟩ := hI1.cell 2 (by simp)
  cases hbb
  simp only [List.getElem_cons_zero, List.getElem_cons_succ, Nat.add_zero] at z0 z2
  obtain ⟨r1, r2, r3, r4, r5, lr⟩ := cells5 hr2
  have HKEY : Hid (∀ W, Fr0 w2 W → Fr0 w2 W ∧ W.cell? ⟨ob, off, none⟩ = some (.int .i64 x1) ∧ W.cell? ⟨ob, off + 2, none⟩ = some (.int .i64 x3) ∧ W.cell? ⟨w.heap.size, 4, none⟩ = some (.int .i64 x)) := fun W hW => ⟨hW, (hW.cell _ _ lob).trans z0, (hW.cell _ _ lob).trans z2, (hW.cell _ _ lr).trans r5⟩
  clear ho1 hA1 b1 b2 b3 hI1 hS1 g hK1 CS hk hr2
  go_upto_region 20 with fail
  go_cut [6, 7] (fun s6 s7 wx => s7 = .nilIface ∧ ∃ g, s6 = .slice (some ⟨g, 0, none⟩) 3 3 ∧ Fr0 w2 wx ∧ wx.heap[g]? = some (.cells #[.int .i64 x1, .int .i64 x, .int .i64 x3] 39 (0, 0)))
  case first =>
    go_region_held3 (fun w' => Fr0 w2 w' ∧ w'.cell? ⟨ob, off, none⟩ = some (.int .i64 x1) ∧ w'.cell? ⟨ob, off + 2, none⟩ = some (.int .i64 x3) ∧ w'.cell? ⟨w.heap.size, 4, none⟩ = some (.int .i64 x))
      (exact HKEY.out _ (by first | exact Fr0.refl _ | exact (Fr0.refl _).drew | exact ((Fr0.refl _).alloc _) | exact ((Fr0.refl _).alloc _).drew | exact ((Fr0.refl _).drew.alloc _)))
      (fail)
    all_goals
      go_wp2_with fail
      go_meet
      exact ⟨rfl, w2.heap.size, rfl, ((Fr0.refl w2).alloc _).drew, alloc_at w2 _ _ rfl⟩
  case rest =>
    obtain ⟨rfl, g, rfl, hf3, hg3⟩ := hcut
    have HP : Hid (ArPost B w p mb most L (arrT kd a n to_ t u) (44 * d.toNat + 4) (.returned (.tuple #[.slice (some ⟨g, 0, none⟩) 3 3, .nilIface])) wc) := by
      obtain ⟨b1, b2, b3⟩ := HB.out
      refine ⟨L1, [x1, x, x3], some ⟨g, 0, none⟩, 3, k, rfl, HS1.out.kept0 hf3, HK.out.trans (Kp.of0 hf3), HG.out, hk2, fun i hi => ?_, ?_⟩
      · refine ⟨_, _, _, _, _, rfl, hg3, by decide, by decide, ?_⟩
        match i, hi with
        | 0, _ => rfl
        | 1, _ => rfl
        | 2, _ => rfl
      · rw [HT.out]
        exact ⟨b1, ⟨_, b2⟩, b3, trivial⟩
    clear hf3 hg3 HKEY z0 z2 r1 r2 r3 r4 r5 lr
    go_wp2_with fail
    go_ret2
    exact HP.out

theorem ArPost.le {B : Nat} {w w' : World} {p mb : Nat} {most : Int} {L : List Ent} {ts : List (List Int)} {N M : Nat} {e : Ending} (h : ArPost B w p mb most L ts N e w') (hm : N ≤ M) : ArPost B w p mb most L ts M e w' := by
  obtain ⟨L', out, a, cap, k, h1, h2, h3, h4, h5, h6⟩ := h
  exact ⟨L', out, a, cap, k, h1, h2, h3, h4, by omega, h6⟩

/-- Arrange of a formed edit within the text. -/
theorem edit_arrange {B : Nat} {w : World} {p mb : Nat} {most : Int} {L : List Ent} {id kd a n to_ x : Int} {t u : List Int} {d du : Int} (hR : Room B w p mb most L (44 * d.toNat + 4)) (hb : BalZ L id t d) (hx : BalZ L x u du) (hf : frmB kd n to_ x = true) (hw : witB t.length kd a n to_ = true) :
    Calls Tryz.prog 79 #[.pointer (some ⟨p, 0, none⟩), .int .i64 id, .agg #[.int .i64 kd, .int .i64 a, .int .i64 n, .int .i64 to_, .int .i64 x]] w (ArPost B w p mb most L (arrT kd a n to_ t u) (44 * d.toNat + 4)) := by
  obtain ⟨⟨g1, g2, g3⟩, g4, g5, g6⟩ := wit_facts hw
  rcases frm_kind hf with ⟨rfl, rfl, rfl⟩ | ⟨rfl, rfl, rfl⟩ | ⟨rfl, rfl⟩ | ⟨rfl, rfl⟩ | ⟨rfl, rfl⟩
  · exact (edit_arrange_ins (hR.less (by omega)) hb hx g1 (by omega)).mono fun e w' h => h.le (by omega)
  · exact edit_arrange_repl (.inl rfl) hR hb hx g1 g2 g3
  · exact edit_arrange_repl (.inr rfl) hR hb hx g1 g2 g3
  · exact edit_arrange_copy hR hb g1 g2 g3 g4 g5
  · by_cases h : to_ ≤ a
    · exact edit_arrange_up hR hb g1 g2 g3 g4 g5 h
    · exact edit_arrange_down hR hb g1 g2 g3 g4 g5 (by omega) (by omega)

end Go.Proofs.YtclpndigmidjkaaGreat

/- The walk of edit.Apply in all cases. -/
set_option linter.unusedSimpArgs false
set_option linter.unusedVariables false
namespace Go.Proofs.YtclpndigmidjkaaGreat
open Go.RowKit

set_option maxRecDepth 100000 in
set_option maxHeartbeats 1000000 in
theorem edit_balanced_no {B : Nat} {w : World} {p mb : Nat} {most : Int} {L : List Ent} (hS : Sto B w p mb most L) {ids : List Int} {a : Option Addr} {cap : Nat} (hI : IntsAt w a ids) (hl : ids.length ≤ 1000000) (hk : ∀ id ∈ ids, isKnown L id) (hbad : ∃ id ∈ ids, (entAt L id).even = false) :
    Calls Tryz.prog 78 #[.pointer (some ⟨p, 0, none⟩), .slice a ids.length cap] w fun e w' => e = .returned (.iface 52 (.int .i64 4)) ∧ Fr0 w w' := by
  have HS := Lib.hid hS
  have HI := Lib.hid hI
  have HK := Lib.hid hk
  have HBAD := Lib.hid hbad
  clear hS hI hk hbad
  go_enter Tryz.func78, Tryz.ntmps78
  go_wp2_with fail
  go_loopw [11] (fun i wr => ∃ k : Nat, k ≤ ids.length ∧ i = .int .i64 k ∧ Fr0 w wr ∧ Hid (∀ y ∈ ids.take k, (entAt L y).even = true)) (fun i _ => ids.length - (intOf i).toNat)
  case atStart => exact ⟨0, Nat.zero_le _, rfl, Fr0.refl w, fun y hy => by simp at hy⟩
  case round =>
    obtain ⟨k, hk, rfl, hf, HE⟩ := hrel
    by_cases hlt : k < ids.length
    · obtain ⟨b, off, rfl, lb, hc⟩ := (HI.out.kept0 hf).cell k hlt
      have k1 := HK.out ids[k] (List.getElem_mem _)
      have CB := Lib.hid (sto_Balanced (HS.out.kept0 hf) ids[k] k1 (entAt L ids[k]).even rfl)
      have HT := Lib.hid (List.take_succ_eq_append_getElem hlt)
      clear k1 HI HS HK
      generalize ids[k] = y at *
      cases he : (entAt L y).even with
      | true =>
        rw [he] at CB
        have HEV := Lib.hid he
        clear he
        go_wp2_with fail
        refine CB.out.mono ?_
        rintro e w2 ⟨rfl, f2⟩
        go_wp2_with fail
        go_roundw
        case rel => exact ⟨k + 1, by omega, by go_num, hf.trans f2, fun z hz => by rw [HT.out] at hz; rcases List.mem_append.1 hz with h | h; exact HE.out z h; simp at h; subst h; exact HEV.out⟩
        case measure => simp [intOf]; omega
      | false =>
        rw [he] at CB
        clear he
        go_wp2_with fail
        refine CB.out.mono ?_
        rintro e w2 ⟨rfl, f2⟩
        go_wp2_with fail
        go_ret
        exact ⟨rfl, hf.trans f2⟩
    · exfalso
      obtain ⟨y, hy, he⟩ := HBAD.out
      have h := HE.out y (by rw [List.take_of_length_le (by omega)]; exact hy)
      rw [h] at he
      cases he

set_option maxRecDepth 100000 in
set_option maxHeartbeats 2000000 in
theorem edit_Apply_unknown {B : Nat} {w : World} {p mb : Nat} {most : Int} {L : List Ent} (hS : Sto B w p mb most L) (id k a n t x : Int) (h : ¬ isKnown L id ∨ ¬ isKnown L x) :
    Calls Tryz.prog 43 #[.pointer (some ⟨p, 0, none⟩), .int .i64 id, .agg #[.int .i64 k, .int .i64 a, .int .i64 n, .int .i64 t, .int .i64 x]] w fun e w' => e = .returned (.tuple #[.int .i64 0, .iface 52 (.int .i64 1)]) ∧ Fr0 w w' := by
  by_cases h1 : isKnown L id
  · have h2 : ¬ isKnown L x := h.resolve_left (fun g => g h1)
    have CK1 := Lib.hid (fun W (hW : Fr0 w W) => edit_known (hS.kept0 hW) id h1)
    have CK2 := Lib.hid (fun W (hW : Fr0 w W) => edit_unknown (hS.kept0 hW) x true (by unfold isKnown at h2; symm; rw [Bool.or_eq_true, decide_eq_true_eq, decide_eq_true_eq]; omega))
    clear hS h h1 h2
    go_enter Tryz.func43, Tryz.ntmps43
    go_wp2_with fail
    refine (CK1.out _ ((Fr0.refl w).alloc _)).mono ?_
    rintro e w' ⟨rfl, rfl⟩
    go_wp2_with fail
    refine (CK2.out _ ((Fr0.refl w).alloc _)).mono ?_
    rintro e w' ⟨rfl, rfl⟩
    go_wp2_with fail
    go_ret2
    exact ⟨rfl, (Fr0.refl w).alloc _⟩
  · have CK1 := Lib.hid (fun W (hW : Fr0 w W) => edit_unknown (hS.kept0 hW) id true (by unfold isKnown at h1; symm; rw [Bool.or_eq_true, decide_eq_true_eq, decide_eq_true_eq]; omega))
    clear hS h h1
    go_enter Tryz.func43, Tryz.ntmps43
    go_wp2_with fail
    refine (CK1.out _ ((Fr0.refl w).alloc _)).mono ?_
    rintro e w' ⟨rfl, rfl⟩
    go_wp2_with fail
    go_ret2
    exact ⟨rfl, (Fr0.refl w).alloc _⟩

set_option maxRecDepth 100000 in
set_option maxHeartbeats 2000000 in
theorem edit_Apply_form {B : Nat} {w : World} {p mb : Nat} {most : Int} {L : List Ent} (hS : Sto B w p mb most L) (id k a n t x : Int) (h1 : isKnown L id) (h2 : isKnown L x) (hf : frmB k n t x = false) :
    Calls Tryz.prog 43 #[.pointer (some ⟨p, 0, none⟩), .int .i64 id, .agg #[.int .i64 k, .int .i64 a, .int .i64 n, .int .i64 t, .int .i64 x]] w fun e w' => e = .returned (.tuple #[.int .i64 0, .iface 52 (.int .i64 4)]) ∧ Fr0 w w' := by
  have CK1 := Lib.hid (fun W (hW : Fr0 w W) => edit_known (hS.kept0 hW) id h1)
  have CK2 := Lib.hid (fun W (hW : Fr0 w W) => edit_known (hS.kept0 hW) x h2)
  have CF := Lib.hid (fun W => edit_formed k a n t x W)
  rw [hf] at CF
  clear hS h1 h2 hf
  go_enter Tryz.func43, Tryz.ntmps43
  go_wp2_with fail
  refine (CK1.out _ ((Fr0.refl w).alloc _)).mono ?_
  rintro e w' ⟨rfl, rfl⟩
  go_wp2_with fail
  refine (CK2.out _ ((Fr0.refl w).alloc _)).mono ?_
  rintro e w' ⟨rfl, rfl⟩
  go_wp2_with fail
  refine (CF.out _).mono ?_
  rintro e w2 ⟨rfl, f2⟩
  have hr2 := f2.kept (b := w.heap.size) (alloc_at w _ _ rfl)
  have F2 := ((Fr0.refl w).alloc _).trans f2
  obtain ⟨r1, r2, r3, r4, r5, lr⟩ := cells5 hr2
  clear f2
  go_wp2_with fail
  go_ret2
  exact ⟨rfl, F2⟩

set_option maxRecDepth 100000 in
set_option maxHeartbeats 2000000 in
theorem edit_Apply_uneven {B : Nat} {w : World} {p mb : Nat} {most : Int} {L : List Ent} (hS : Sto B w p mb most L) (id k a n t x : Int) (h1 : isKnown L id) (h2 : isKnown L x) (hf : frmB k n t x = true) (he : (entAt L id).even = false ∨ (entAt L x).even = false) :
    Calls Tryz.prog 43 #[.pointer (some ⟨p, 0, none⟩), .int .i64 id, .agg #[.int .i64 k, .int .i64 a, .int .i64 n, .int .i64 t, .int .i64 x]] w fun e w' => e = .returned (.tuple #[.int .i64 0, .iface 52 (.int .i64 4)]) ∧ Fr0 w w' := by
  have CK1 := Lib.hid (fun W (hW : Fr0 w W) => edit_known (hS.kept0 hW) id h1)
  have CK2 := Lib.hid (fun W (hW : Fr0 w W) => edit_known (hS.kept0 hW) x h2)
  have CF := Lib.hid (fun W => edit_formed k a n t x W)
  rw [hf] at CF
  have CB := Lib.hid (fun W (hW : Fr0 w W) c => edit_balanced_no (cap := c) ((hS.kept0 hW).kept0 ((Fr0.refl W).alloc _)) (ints2 W id x) (by simp) (by
    intro i hi
    simp only [List.mem_cons, List.not_mem_nil, or_false] at hi
    rcases hi with rfl | rfl
    · exact h1
    · exact h2) (by rcases he with h | h; exact ⟨id, by simp, h⟩; exact ⟨x, by simp, h⟩))
  clear hS h1 h2 hf he
  go_enter Tryz.func43, Tryz.ntmps43
  go_wp2_with fail
  refine (CK1.out _ ((Fr0.refl w).alloc _)).mono ?_
  rintro e w' ⟨rfl, rfl⟩
  go_wp2_with fail
  refine (CK2.out _ ((Fr0.refl w).alloc _)).mono ?_
  rintro e w' ⟨rfl, rfl⟩
  go_wp2_with fail
  refine (CF.out _).mono ?_
  rintro e w2 ⟨rfl, f2⟩
  have hr2 := f2.kept (b := w.heap.size) (alloc_at w _ _ rfl)
  have F2 := ((Fr0.refl w).alloc _).trans f2
  obtain ⟨r1, r2, r3, r4, r5, lr⟩ := cells5 hr2
  clear f2
  go_wp2_with fail
  refine (CB.out _ F2 _).mono ?_
  rintro e w3 ⟨rfl, f3⟩
  have hr3 := f3.kept (((Fr0.refl w2).alloc _).kept hr2)
  have F3 := (F2.alloc _).trans f3
  clear r1 r2 r3 r4 r5 lr hr2 f3
  obtain ⟨r1, r2, r3, r4, r5, lr⟩ := cells5 hr3
  go_wp2_with fail
  go_ret2
  exact ⟨rfl, F3⟩

set_option maxRecDepth 100000 in
set_option maxHeartbeats 2000000 in
theorem edit_Apply_len {B : Nat} {w : World} {p mb : Nat} {most : Int} {L : List Ent} (hS : Sto B w p mb most L) (hO : SOk L) (id k a n t x : Int) (h1 : isKnown L id) (h2 : isKnown L x) (hf : frmB k n t x = true) (e1 : (entAt L id).even = true) (e2 : (entAt L x).even = true) (he : errE (entAt L id).wt.len k a n t x (entAt L x).wt.len ≠ 0) :
    Calls Tryz.prog 43 #[.pointer (some ⟨p, 0, none⟩), .int .i64 id, .agg #[.int .i64 k, .int .i64 a, .int .i64 n, .int .i64 t, .int .i64 x]] w fun e w' => e = .returned (.tuple #[.int .i64 0, .iface 52 (.int .i64 (errE (entAt L id).wt.len k a n t x (entAt L x).wt.len))]) ∧ Fr0 w w' := by
  have CK1 := Lib.hid (fun W (hW : Fr0 w W) => edit_known (hS.kept0 hW) id h1)
  have CK2 := Lib.hid (fun W (hW : Fr0 w W) => edit_known (hS.kept0 hW) x h2)
  have CF := Lib.hid (fun W => edit_formed k a n t x W)
  rw [hf] at CF
  have CB := Lib.hid (fun W (hW : Fr0 w W) c => edit_balanced (cap := c) ((hS.kept0 hW).kept0 ((Fr0.refl W).alloc _)) (ints2 W id x) (by simp) (by
    intro i hi
    simp only [List.mem_cons, List.not_mem_nil, or_false] at hi
    rcases hi with rfl | rfl
    · exact ⟨h1, e1⟩
    · exact ⟨h2, e2⟩))
  have CW := Lib.hid (fun W (hW : Fr0 w W) => sto_Weight (hS.kept0 hW) id h1)
  have l0 := (hO.at id h1).1.len0
  have l1 := (hO.at id h1).1.len1
  have CL := Lib.hid (fun W (hW : Fr0 w W) => edit_Length_all (hS.kept0 hW) hO (entAt L id).wt.len k a n t x h2 l0 l1)
  generalize (entAt L id).wt = y at *
  generalize valE y.len k a n t x (entAt L x).wt.len = V at *
  generalize errE y.len k a n t x (entAt L x).wt.len = Z at *
  rw [show errV Z = .iface 52 (.int .i64 Z) from if_neg he] at CL
  have HV : Hid True := trivial
  clear hS hO h1 h2 hf he e1 e2 l0 l1
  go_enter Tryz.func43, Tryz.ntmps43
  go_wp2_with fail
  refine (CK1.out _ ((Fr0.refl w).alloc _)).mono ?_
  rintro e w' ⟨rfl, rfl⟩
  go_wp2_with fail
  refine (CK2.out _ ((Fr0.refl w).alloc _)).mono ?_
  rintro e w' ⟨rfl, rfl⟩
  go_wp2_with fail
  refine (CF.out _).mono ?_
  rintro e w2 ⟨rfl, f2⟩
  have hr2 := f2.kept (b := w.heap.size) (alloc_at w _ _ rfl)
  have F2 := ((Fr0.refl w).alloc _).trans f2
  obtain ⟨r1, r2, r3, r4, r5, lr⟩ := cells5 hr2
  clear f2
  go_wp2_with fail
  refine (CB.out _ F2 _).mono ?_
  rintro e w3 ⟨rfl, f3⟩
  have hr3 := f3.kept (((Fr0.refl w2).alloc _).kept hr2)
  have F3 := (F2.alloc _).trans f3
  clear r1 r2 r3 r4 r5 lr hr2 f3
  obtain ⟨r1, r2, r3, r4, r5, lr⟩ := cells5 hr3
  go_wp2_with fail
  refine (CW.out _ F3).mono ?_
  rintro e w4 ⟨rfl, f4⟩
  have hr4 := ((Fr0.refl w4).alloc (.cells #[.int .i64 y.len, .int .i64 y.lines, .int .i64 y.head, .int .i64 y.tail, .int .u64 y.val, .int .u64 y.scale] 157 (0, 0))).kept (f4.kept hr3)
  have F4 := (F3.trans f4).alloc (.cells #[.int .i64 y.len, .int .i64 y.lines, .int .i64 y.head, .int .i64 y.tail, .int .u64 y.val, .int .u64 y.scale] 157 (0, 0))
  clear r1 r2 r3 r4 r5 lr hr3 f4
  obtain ⟨r1, r2, r3, r4, r5, lr⟩ := cells5 hr4
  go_wp2_with fail
  refine (CL.out _ F4).mono ?_
  rintro e w5 ⟨rfl, f5⟩
  have hr5 := f5.kept hr4
  have F5 := F4.trans f5
  clear r1 r2 r3 r4 r5 lr hr4 f5
  obtain ⟨r1, r2, r3, r4, r5, lr⟩ := cells5 hr5
  clear hr5
  go_wp2_with fail
  go_ret2
  exact ⟨rfl, F5⟩

theorem arr_count (k a n to_ : Int) (t u : List Int) : (arrT k a n to_ t u).length ≤ 4 := by
  unfold arrT
  split
  · simp
  · split
    · split <;> simp
    · split <;> simp

theorem arr_len {k a n to_ x : Int} {t u : List Int} (hf : frmB k n to_ x = true) (hw : witB t.length k a n to_ = true) (hx : x = 0 → u = []) : (((arrT k a n to_ t u).flatten).length : Int) = totE t.length k n u.length := by
  obtain ⟨⟨g1, g2, g3⟩, g4, g5, g6⟩ := wit_facts hw
  unfold arrT totE
  rcases frm_kind hf with ⟨rfl, rfl, rfl⟩ | ⟨rfl, rfl, rfl⟩ | ⟨rfl, rfl⟩ | ⟨rfl, rfl⟩ | ⟨rfl, rfl⟩
  · rw [if_neg (by decide), if_neg (by decide), if_pos rfl, if_neg (by decide), if_neg (by decide)]
    simp only [List.flatten_cons, List.flatten_nil, List.append_nil, List.length_append, List.length_take, List.length_drop]
    omega
  · rw [if_neg (by decide), if_neg (by decide), if_neg (by decide), if_neg (by decide), if_neg (by decide)]
    have c1 := cut_len (t := t) (f := 0) (n := a) (by omega) (by omega) (by omega)
    have c2 := cut_len (t := t) (f := a + n) (n := t.length - (a + n)) (by omega) (by omega) (by omega)
    simp only [List.flatten_cons, List.flatten_nil, List.append_nil, List.length_append]
    omega
  · rw [if_neg (by decide), if_neg (by decide), if_neg (by decide), if_neg (by decide), if_neg (by decide)]
    have c1 := cut_len (t := t) (f := 0) (n := a) (by omega) (by omega) (by omega)
    have c2 := cut_len (t := t) (f := a + n) (n := t.length - (a + n)) (by omega) (by omega) (by omega)
    simp only [List.flatten_cons, List.flatten_nil, List.append_nil, List.length_append]
    omega
  · rw [if_pos rfl, if_pos rfl]
    have c1 := cut_len (t := t) (f := a) (n := n) (by omega) (by omega) (by omega)
    simp only [List.flatten_cons, List.flatten_nil, List.append_nil, List.length_append, List.length_take, List.length_drop]
    omega
  · simp only [show ((5 : Int) = 4) = False from by decide, if_false, if_true]
    split
    · next h =>
      have c1 := cut_len (t := t) (f := 0) (n := to_) (by omega) (by omega) (by omega)
      have c2 := cut_len (t := t) (f := a) (n := n) (by omega) (by omega) (by omega)
      have c3 := cut_len (t := t) (f := to_) (n := a - to_) (by omega) (by omega) (by omega)
      have c4 := cut_len (t := t) (f := a + n) (n := t.length - (a + n)) (by omega) (by omega) (by omega)
      simp only [List.flatten_cons, List.flatten_nil, List.append_nil, List.length_append]
      omega
    · next h =>
      have h7 : a + n ≤ to_ := by omega
      have c1 := cut_len (t := t) (f := 0) (n := a) (by omega) (by omega) (by omega)
      have c2 := cut_len (t := t) (f := a + n) (n := to_ - (a + n)) (by omega) (by omega) (by omega)
      have c3 := cut_len (t := t) (f := a) (n := n) (by omega) (by omega) (by omega)
      have c4 := cut_len (t := t) (f := to_) (n := t.length - to_) (by omega) (by omega) (by omega)
      simp only [List.flatten_cons, List.flatten_nil, List.append_nil, List.length_append]
      omega

set_option maxRecDepth 100000 in
set_option maxHeartbeats 4000000 in
theorem edit_Apply_ok {B : Nat} {w : World} {p mb : Nat} {most : Int} {L : List Ent} {id k a n t x : Int} {tt u : List Int} {d du : Int} (D : Nat) (hR : Room B w p mb most L (44 * d.toNat + 4 + 4 * (3 * D + 1))) (hb : BalZ L id tt d) (hx : BalZ L x u du) (hf : frmB k n t x = true) (hw : witB tt.length k a n t = true) (hl : totE tt.length k n u.length ≤ 1152921504606846976) (hD : totE tt.length k n u.length < lst (D + 1)) :
    Calls Tryz.prog 43 #[.pointer (some ⟨p, 0, none⟩), .int .i64 id, .agg #[.int .i64 k, .int .i64 a, .int .i64 n, .int .i64 t, .int .i64 x]] w (ZPost B w p mb most L (arrT k a n t tt u).flatten (fun d' c => d' ≤ D ∧ c ≤ 44 * d.toNat + 4 + 4 * (3 * D + 1))) := by
  have hS := hR.st
  have hO := hR.sok
  have h1 := hb.known
  have h2 := hx.known
  have e1 := hb.even
  have e2 := hx.even
  have hlen := hb.len hR.dok hR.sok
  have hlen2 := hx.len hR.dok hR.sok
  have CK1 := Lib.hid (fun W (hW : Fr0 w W) => edit_known (hS.kept0 hW) id h1)
  have CK2 := Lib.hid (fun W (hW : Fr0 w W) => edit_known (hS.kept0 hW) x h2)
  have CF := Lib.hid (fun W => edit_formed k a n t x W)
  rw [hf] at CF
  have CB := Lib.hid (fun W (hW : Fr0 w W) c => edit_balanced (cap := c) ((hS.kept0 hW).kept0 ((Fr0.refl W).alloc _)) (ints2 W id x) (by simp) (by
    intro i hi
    simp only [List.mem_cons, List.not_mem_nil, or_false] at hi
    rcases hi with rfl | rfl
    · exact ⟨h1, e1⟩
    · exact ⟨h2, e2⟩))
  have CW := Lib.hid (fun W (hW : Fr0 w W) => sto_Weight (hS.kept0 hW) id h1)
  have l0 := (hO.at id h1).1.len0
  have l1 := (hO.at id h1).1.len1
  have CL := Lib.hid (fun W (hW : Fr0 w W) => edit_Length_all (hS.kept0 hW) hO (entAt L id).wt.len k a n t x h2 l0 l1)
  rw [← hlen, ← hlen2] at CL
  rw [(errE_ok hf hw rfl (by omega)).1, (errE_ok hf hw rfl (by omega)).2] at CL
  have CA := Lib.hid (fun W (hW : Fr0 w W) => edit_arrange ((hR.kept0 hW).less (by omega)) hb hx hf hw)
  have HR := Lib.hid hR
  have HTT := Lib.hid (arr_len hf hw (fun e => by subst e; exact hx.text.symm))
  have HC := Lib.hid (arr_count k a n t tt u)
  generalize totE tt.length k n u.length = V at *
  generalize arrT k a n t tt u = ts at *
  rw [hlen] at CL
  generalize (entAt L id).wt = y at *
  have HL := Lib.hid hl
  have HD := Lib.hid hD
  rw [show errV 0 = .nilIface from rfl] at CL
  clear hS hO h1 h2 hf hw hR hb hx hlen hlen2 hl hD e1 e2 l0 l1
  go_enter Tryz.func43, Tryz.ntmps43
  go_wp2_with fail
  refine (CK1.out _ ((Fr0.refl w).alloc _)).mono ?_
  rintro e w' ⟨rfl, rfl⟩
  go_wp2_with fail
  refine (CK2.out _ ((Fr0.refl w).alloc _)).mono ?_
  rintro e w' ⟨rfl, rfl⟩
  go_wp2_with fail
  refine (CF.out _).mono ?_
  rintro e w2 ⟨rfl, f2⟩
  have hr2 := f2.kept (b := w.heap.size) (alloc_at w _ _ rfl)
  have F2 := ((Fr0.refl w).alloc _).trans f2
  obtain ⟨r1, r2, r3, r4, r5, lr⟩ := cells5 hr2
  clear f2
  go_wp2_with fail
  refine (CB.out _ F2 _).mono ?_
  rintro e w3 ⟨rfl, f3⟩
  have hr3 := f3.kept (((Fr0.refl w2).alloc _).kept hr2)
  have F3 := (F2.alloc _).trans f3
  clear r1 r2 r3 r4 r5 lr hr2 f3
  obtain ⟨r1, r2, r3, r4, r5, lr⟩ := cells5 hr3
  go_wp2_with fail
  refine (CW.out _ F3).mono ?_
  rintro e w4 ⟨rfl, f4⟩
  have hr4 := ((Fr0.refl w4).alloc (.cells #[.int .i64 y.len, .int .i64 y.lines, .int .i64 y.head, .int .i64 y.tail, .int .u64 y.val, .int .u64 y.scale] 157 (0, 0))).kept (f4.kept hr3)
  have F4 := (F3.trans f4).alloc (.cells #[.int .i64 y.len, .int .i64 y.lines, .int .i64 y.head, .int .i64 y.tail, .int .u64 y.val, .int .u64 y.scale] 157 (0, 0))
  clear r1 r2 r3 r4 r5 lr hr3 f4
  obtain ⟨r1, r2, r3, r4, r5, lr⟩ := cells5 hr4
  go_wp2_with fail
  refine (CL.out _ F4).mono ?_
  rintro e w5 ⟨rfl, f5⟩
  have hr5 := f5.kept hr4
  have F5 := F4.trans f5
  clear r1 r2 r3 r4 r5 lr hr4 f5
  obtain ⟨r1, r2, r3, r4, r5, lr⟩ := cells5 hr5
  clear hr5
  go_wp2_with fail
  refine (CA.out _ F5).mono ?_
  rintro e w6 ⟨L1, out, oa, ocap, c, rfl, hS1, hK1, g, hk, hI, hA⟩
  have HO3 : Hid (out.length ≤ 4) := by show _ ≤ _; rw [hA.len]; exact HC.out
  have hmul : out.length * (3 * D + 1) ≤ 4 * (3 * D + 1) := Nat.mul_le_mul_right _ HO3.out
  have CC := Lib.hid (bal_Concat (cap := ocap) D ((HR.out.kept0 F5).next (k := out.length * (3 * D + 1)) hS1 hK1 g (by omega)) hI hA (by have := HO3.out; omega) (by rw [HTT.out]; exact HL.out) (by have h1 := HTT.out; have h2 := HD.out; omega))
  have HK := Lib.hid ((Kp.of0 F5).trans hK1)
  have HG := Lib.hid g
  have HM := Lib.hid hmul
  clear hS1 hK1 g hI hA CA r1 r2 r3 r4 r5 lr hmul
  go_wp2_with fail
  refine CC.out.mono ?_
  rintro e w7 hx
  obtain ⟨z, rfl⟩ := hx.ret
  have HX := Lib.hid (ZPost.next (E := fun d' c => d' ≤ D ∧ c ≤ 44 * d.toNat + 4 + 4 * (3 * D + 1)) HK.out HG.out hx (fun e k h => ⟨h.1, by have h2 := h.2; have := HM.out; omega⟩))
  clear hx CC
  go_wp2_with fail
  go_ret2
  exact HX.out

end Go.Proofs.YtclpndigmidjkaaGreat

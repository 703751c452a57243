/- The walk of begun in law 36, for up to eight rules. -/
import Derived.Test.YtclpndigmidjkaaGreatQg
import Derived.Test.YtclpndigmidjkaaGreatQMk9
import Derived.Test.YtclpndigmidjkaaGreatQEdN
import Derived.Test.YtclpndigmidjkaaGreatQEdN2
set_option linter.unusedSimpArgs false
set_option linter.unusedVariables false
namespace Go.Proofs.YtclpndigmidjkaaGreat
open Go.RowKit

theorem Wd.keptK {w0 w w' : World} {q p mb : Nat} {rv lv va vi : Value} {L L' : List Ent} (h : Wd w0 w q p mb rv lv va vi L) (hK : Kp w0.heap.size mb w w') (hS : Sto w0.heap.size w' p mb 1048576 L') : Wd w0 w' q p mb rv lv va vi L' :=
  ⟨Kp.fr0 h.fr hK (Nat.le_refl _), h.new, hK.cells _ _ _ _ h.ptr (by decide) (by decide), hS⟩

def tri : Nat → Nat
  | 0 => 0
  | k + 1 => tri k + k

theorem tri_le : ∀ {k : Nat}, k ≤ 8 → tri k ≤ 28
  | 0, _ | 1, _ | 2, _ | 3, _ | 4, _ | 5, _ | 6, _ | 7, _ | 8, _ => by decide
  | k + 9, h => by omega

/-- The world of law 36, with k balanced results. -/
structure BgR (w wr : World) (q p mb : Nat) (rv lv va vi : Value) (L0 L : List Ent) (rs ids : List Int) (k : Nat) : Prop where
  wd : Wd w wr q p mb rv lv va vi L
  any : wr.ownsRow w.heap.size 39 1 va rs.length (rs.map fun x => Value.int .i64 x)
  own : wr.ownsRow w.heap.size 39 1 vi ids.length (ids.map fun x => Value.int .i64 x)
  apart : ∀ j, va.ownBlock = some j → vi.ownBlock ≠ some j
  len : ids.length = k
  gr : Grows L0 L (15677 * tri k)
  bal : ∀ i, i < k → ∃ y d, ids[i]? = some y ∧ BalZ L y (txt L0 (rs.getD i 0)) d

theorem BgR.kept0 {w wr w' : World} {q p mb : Nat} {rv lv va vi : Value} {L0 L : List Ent} {rs ids : List Int} {k : Nat} (h : BgR w wr q p mb rv lv va vi L0 L rs ids k) (hf : Fr0 wr w') : BgR w w' q p mb rv lv va vi L0 L rs ids k :=
  ⟨h.wd.kept0 hf, hf.owns h.any, hf.owns h.own, h.apart, h.len, h.gr, h.bal⟩

theorem allL_at_le (ms : List Mk) (hm : ∀ m ∈ ms, m.Ok) (k : Nat) (hk : k ≤ ms.length) : ∃ x, (allL ms).2[k]? = some x ∧ 0 ≤ x ∧ x ≤ (k : Int) ∧ isKnown (allL ms).1 x := by
  obtain ⟨o1, o2, o3, o4⟩ := allL_ok ms hm k hk
  obtain ⟨p1, p2, p3, p4⟩ := allL_ok ms hm ms.length (Nat.le_refl _)
  rw [List.take_length] at p2 p4
  obtain ⟨M, hM⟩ := allL_pre ms (ms.length - k) k (by omega)
  rw [show k + (ms.length - k) = ms.length by omega, List.take_length] at hM
  have hlt : k < (allL (ms.take k)).2.length := by omega
  have e : (allL ms).2[k]? = some (allL (ms.take k)).2[k] := by
    rw [hM, List.getElem?_append_left hlt, List.getElem?_eq_getElem hlt]
  have h1 := o2 _ (List.getElem_mem hlt)
  refine ⟨_, e, h1.1, by have := h1.2; omega, p2 _ ?_⟩
  exact List.mem_of_getElem? e

/-- What begun leaves. -/
def BegP (w : World) (ms : List Mk) (e : Ending) (w' : World) : Prop :=
  ∃ q p mb rv lv va vi L ids, e = .returned (.tuple #[.pointer (some ⟨q, 0, none⟩), .bool true]) ∧ BgR w w' q p mb rv lv va vi (allL ms).1 L (allL ms).2 ids (ms.length + 1)

theorem BegP.drewN {w w' : World} {ms : List Mk} {e : Ending} (h : BegP w ms e w') (n : Nat) : BegP w ms e (w'.drewN n) := by
  obtain ⟨q, p, mb, rv, lv, va, vi, L, ids, h1, h2⟩ := h
  exact ⟨q, p, mb, rv, lv, va, vi, L, ids, h1, h2.kept0 ((Fr0.refl w').drewN n)⟩

/-- One result more. -/
theorem BgR.next {w wr w3 w8 : World} {q p mb : Nat} {rv lv va vi : Value} {L0 L L2 : List Ent} {rs ids : List Int} {k n : Nat} (h : BgR w wr q p mb rv lv va vi L0 L rs ids k) (hD : DOk L) {x y d : Int} (hx : rs.getD k 0 = x)
    (hS : Sto w.heap.size w3 p mb 1048576 L2) (hK : Kp w.heap.size mb wr w3) (hg : Grows L L2 n) (hn : n ≤ 15677 * k) (hb : BalZ L2 y (txt L0 x) d) {oa : Option Addr} {oc : Nat}
    (hO8 : w8.ownsRow w.heap.size 39 1 (.slice oa (ids.length + 1) oc) (ids ++ [y]).length ((ids ++ [y]).map fun x => Value.int .i64 x)) (hg8 : (w3.alloc (.cells #[.int .i64 y] 39 (0, 0))).grownBy w8 vi.ownBlock)
    (hat : (Value.slice oa (ids.length + 1) oc).ownBlock = vi.ownBlock ∨ (Value.slice oa (ids.length + 1) oc).ownBlock = some (w3.heap.size + 1)) :
    BgR w (w8.setCell ⟨q, 4, none⟩ (.slice oa (ids.length + 1) oc)) q p mb rv lv va (.slice oa (ids.length + 1) oc) L0 L2 rs (ids ++ [y]) (k + 1) := by
  have hW3 := h.wd.keptK hK hS
  have hF8 : Fr (fun j => vi.ownBlock = some j) w3 w8 := Fr.grown ((Fr.refl _ w3).alloc _) hg8 (fun j hj _ => hj)
  have own3 := hK.owns h.own (by decide) (by decide)
  have any3 := hK.owns h.any (by decide) (by decide)
  have hq8 : w8.heap[q]? = _ := hF8.kept hW3.ptr (fun e => by obtain ⟨cur, hc⟩ := owns_block own3 e; exact ne_of_types hc hW3.ptr (by decide) rfl)
  have any8 := hF8.owns any3 (fun j hj => h.apart j hj)
  have hS : Fr (fun j => j = q) w8 (w8.setCell ⟨q, 4, none⟩ (.slice oa (ids.length + 1) oc)) := (Fr.refl _ w8).setCell _ _ (fun _ => rfl)
  have hne : ∀ {v : Value} {n : Nat} {xs : List Value}, w8.ownsRow w.heap.size 39 1 v n xs → ∀ j, v.ownBlock = some j → ¬ j = q := fun ho j hj e => by
    obtain ⟨cur, hc⟩ := owns_block ho hj
    exact ne_of_types hc hq8 (by decide) e
  have hwn := hW3.new
  have hW8 : Wd w w8 q p mb rv lv va vi L2 := ⟨Fr.trans hW3.fr hF8 (fun j hj hlt => by have := (own3.lt j hj).1; omega), hwn, hq8, Sto.push hW3.st own3 (by decide) (by decide) hg8⟩
  refine ⟨hW8.stored hS (setCell_block hq8 4 _), hS.owns any8 (hne any8), hS.owns hO8 (hne hO8), fun j hj e => ?_, by simp [h.len], h.gr.trans hg (by simp only [tri]; omega), fun i hi => ?_⟩
  · rcases hat with g | g
    · rw [g] at e; exact h.apart j hj e
    · rw [g] at e
      have := (any3.lt j hj).2
      simp only [Option.some.injEq] at e
      omega
  · by_cases hik : i < k
    · obtain ⟨y', d', h1, h2⟩ := h.bal i hik
      exact ⟨y', d', by rw [List.getElem?_append_left (by rw [h.len]; exact hik)]; exact h1, hg.balz hD h2⟩
    · obtain rfl : i = k := by omega
      exact ⟨y, d, by rw [List.getElem?_append_right (by rw [h.len]; omega), h.len]; simp, by rw [hx]; exact hb⟩

set_option maxRecDepth 100000 in
set_option maxHeartbeats 2000000 in
theorem law36_begun {w : World} {a : Option Addr} {cap : Nat} {ms : List Mk} (hA : RG Mk.vals 5 w.heap.size w a ms) (hl : ms.length ≤ 8) (hm : ∀ m ∈ ms, m.Ok) :
    Calls Tryz.prog 35 #[.slice a ms.length cap] w (BegP w ms) := by
  obtain ⟨o1, o2, o3, o4⟩ := one_letter
  have O1 := Lib.hid o1
  have O2 := Lib.hid o2
  have O3 := Lib.hid o3
  have O4 := Lib.hid o4
  have HA := Lib.hid hA
  have HM := Lib.hid hm
  clear o1 o2 o3 o4 hA hm
  go_enter Tryz.func35, Tryz.ntmps35
  go_wp2_with fail
  refine (st_New _).mono ?_
  rintro e w1 ⟨rfl, f1, hS1, hz1⟩
  go_wp2_with fail
  have hW : Wd w (w1.alloc (.cells #[.pointer (some ⟨w.heap.size + 1, 0, none⟩), .slice none 0 0, .slice none 0 0, .slice none 0 0, .slice none 0 0] 93 (0, 0))) (w.heap.size + 2) (w.heap.size + 1) w.heap.size (.slice none 0 0) (.slice none 0 0) (.slice none 0 0) (.slice none 0 0) [] :=
    ⟨f1.alloc _, by omega, alloc_at _ _ _ hz1.symm, ⟨_, hS1.kept0 ((Fr0.refl w1).alloc _), by omega, by omega, fun k hk => by simp [Value.ownBlock] at hk⟩⟩
  clear f1 hS1 hz1
  generalize hw2 : w1.alloc (.cells #[.pointer (some ⟨w.heap.size + 1, 0, none⟩), .slice none 0 0, .slice none 0 0, .slice none 0 0, .slice none 0 0] 93 (0, 0)) = w2 at *
  clear hw2
  have CB1 := Lib.hid (ref12_Build (B := w.heap.size) (cap := cap) (HA.out.kept0 hW.fr) (by omega) HM.out)
  generalize w.heap.size + 2 = q at *
  generalize w.heap.size + 1 = p at *
  refine CB1.out.mono ?_
  rintro e w3 ⟨ra, la, v3, rfl, f3, ⟨⟨raa, rac, rfl, -⟩, ⟨laa, lac, rfl, -⟩, -, -⟩, -⟩
  have hW3 := hW.kept0 f3
  clear hW f3 CB1


  obtain ⟨c0, c1, c2, c3, c4, cf, lq⟩ := hW3.front
  go_wp2_with fail
  have hW4 : Wd w ((w3.setCell ⟨q, 1, none⟩ (.slice raa (allL ms).1.length rac)).setCell ⟨q, 2, none⟩ (.slice laa (allL ms).1.length lac)) q p w.heap.size (.slice raa (allL ms).1.length rac) (.slice laa (allL ms).1.length lac) (.slice none 0 0) (.slice none 0 0) [] :=
    hW3.stored (((Fr.refl (fun k => k = q) w3).setCell _ _ (fun _ => rfl)).setCell _ _ (fun _ => rfl)) (setCell_block (setCell_block hW3.ptr 1 _) 2 _)
  clear hW3 c0 c1 c2 c3 c4 cf lq
  generalize (w3.setCell ⟨q, 1, none⟩ (.slice raa (allL ms).1.length rac)).setCell ⟨q, 2, none⟩ (.slice laa (allL ms).1.length lac) = w4 at *
  generalize Value.slice raa (allL ms).1.length rac = ra at *
  generalize Value.slice laa (allL ms).1.length lac = la at *
  have CB2 := Lib.hid (law12_Build (cap := cap) hW4.st (Fr.size hW4.fr) (by omega) (HA.out.kept0 hW4.fr) (by omega) HM.out)
  refine CB2.out.mono ?_
  rintro e w5 ⟨va, rfl, hS5, hK5, ho5⟩
  obtain ⟨aa, ac, rfl⟩ := owns_form ho5
  have hW5 := hW4.keptK hK5 hS5
  have any5 := owns_lowI ho5 (Fr.size hW4.fr)
  have HAT := Lib.hid (allL_at_le ms HM.out)
  obtain ⟨okS, _, okL, okR⟩ := allL_ok ms HM.out ms.length (Nat.le_refl _)
  have okD := allL_dok ms HM.out ms.length (Nat.le_refl _)
  rw [List.take_length] at okS okL okR okD
  have hrl : (allL ms).2.length ≤ 9 := by omega
  have HRL := Lib.hid okR
  generalize hL0 : (allL ms).1 = L0 at *
  generalize hR0 : (allL ms).2 = rs at *
  have HL0 := Lib.hid hL0
  have HR0 := Lib.hid hR0
  clear CB2 hW4 hS5 hK5 ho5 HA okR hL0 hR0
  obtain ⟨c0, c1, c2, c3, c4, cf, lq⟩ := hW5.front
  have H0 : Hid (BgR w (w5.setCell ⟨q, 3, none⟩ (.slice aa rs.length ac)) q p w.heap.size ra la (.slice aa rs.length ac) (.slice none 0 0) L0 L0 rs [] 0) := by
    have hS : Fr (fun j => j = q) w5 (w5.setCell ⟨q, 3, none⟩ (.slice aa rs.length ac)) := (Fr.refl _ w5).setCell _ _ (fun _ => rfl)
    refine ⟨hW5.stored hS (setCell_block hW5.ptr 3 _), hS.owns any5 (fun j hj e => ?_), World.ownsRow_nil _ _ _ _, fun j _ => by simp [Value.ownBlock], rfl, Grows.refl okS okD, fun i hi => by omega⟩
    obtain ⟨cur, hc⟩ := owns_block any5 hj
    exact ne_of_types hc hW5.ptr (by decide) e
  have HD := Lib.hid okD
  clear hW5 any5 okS okD
  go_wp2_with fail
  clear c0 c1 c2 c3 c4 cf lq
  go_loopw [46] (fun i wr => ∃ (k : Nat) (ids : List Int) (vi : Value) (L : List Ent), k ≤ rs.length ∧ i = .int .i64 k ∧ BgR w wr q p w.heap.size ra la (.slice aa rs.length ac) vi L0 L rs ids k) (fun i _ => rs.length - (intOf i).toNat)
  case atStart => exact ⟨0, [], _, L0, by omega, rfl, H0.out⟩
  case round =>
    clear H0
    obtain ⟨k, ids, vi, L, hk, rfl, hr⟩ := hrel
    by_cases hlt : k < rs.length
    · obtain ⟨x, hx, hx0, hxk, hxn⟩ := HAT.out k (by have := HRL.out; omega)
      obtain ⟨ia, ic, rfl⟩ := owns_form hr.own
      obtain ⟨ga, gcap, hgv, hI⟩ := ints_of_own hr.any (by decide) (by decide)
      cases hgv
      obtain ⟨b, off, rfl, lb, hcell⟩ := hI.cell k hlt
      rw [show rs[k] = x by rw [List.getElem?_eq_getElem hlt] at hx; exact Option.some.inj hx] at hcell
      have htri : tri k ≤ 28 := tri_le (by omega)
      have hlen := hr.gr.len
      have hLb : L.length ≤ 8 + 15677 * 28 := by have := Nat.mul_le_mul_left 15677 htri; omega
      obtain ⟨X, hX⟩ := hr.gr.ext
      have hRm : Room w.heap.size wr p w.heap.size 1048576 L (15677 * x.toNat) := ⟨hr.wd.st, Fr.size hr.wd.fr, hr.gr.sok, hr.gr.dok, by omega, by omega⟩
      have CO := Lib.hid (bal_Of hRm (by omega) (show isKnown L x by rw [hX]; exact isKnown_append X hxn))
      rw [show txt L x = txt L0 x by rw [hX]; exact txt_append HD.out X hxn] at CO
      have HNX := Lib.hid (fun w3 w8 L2 n y d oa oc a1 a2 a3 a4 a5 a6 a7 a8 => hr.next (x := x) (w3 := w3) (w8 := w8) (L2 := L2) (n := n) (y := y) (d := d) (oa := oa) (oc := oc) hr.gr.dok (by rw [List.getD_eq_getElem?_getD, hx]; rfl) a1 a2 a3 a4 a5 a6 a7 a8)
      obtain ⟨c0, c1, c2, c3, c4, cf, lq⟩ := hr.wd.front
      have HR := Lib.hid hr
      have hidl : ids.length ≤ 1000000 := by have := hr.len; omega
      have q5 : (0 : Int) ≤ (k : Int) := by omega
      have q6 : (k : Int) < (rs.length : Int) := by omega
      have hxm : 15677 * x.toNat ≤ 15677 * k := Nat.mul_le_mul_left _ (by omega)
      have HXM := Lib.hid hxm
      clear hI hRm hX hr hx hxn O1 O2 O3 O4 hxm hlen hLb
      go_wp2_with fail
      refine CO.out.mono ?_
      rintro e w7 ⟨L2, y, d, n, rfl, hS7, hK7, hg7, hb7, hn7⟩
      have hW7 := HR.out.wd.keptK hK7 hS7
      have own7 := hK7.owns HR.out.own (by decide) (by decide)
      have hbs : w.heap.size ≤ w7.heap.size := Fr.size hW7.fr
      have HN7 := Lib.hid (fun w8 oa oc a6 a7 a8 => HNX.out w7 w8 L2 n y d oa oc hS7 hK7 hg7 (by have := HXM.out; omega) hb7 a6 a7 a8)
      have HW7 := Lib.hid hW7
      have HOW := Lib.hid own7
      have HLN := Lib.hid (show (ids ++ [y]).length = ids.length + 1 by simp)
      clear c0 c1 c2 c3 c4 cf lq hcell lb hS7 hK7 hg7 hb7 hn7 CO HNX
      obtain ⟨c0, c1, c2, c3, c4, cf, lq⟩ := hW7.front
      clear hW7 own7
      go_wp2_with (at_builtin; refine wpList_pushR rt_id rfl _ _ rfl w.heap.size (.slice ia ids.length ic) ids rfl HOW.out hbs 39 y 1 _ rfl rfl hidl ?_; intro v' w8 hO8 hg8 hat8; obtain ⟨oa, oc, hv'⟩ := owns_form hO8; rw [HLN.out] at hv'; subst hv'; have hF8 : Fr (fun j => (Value.slice ia ids.length ic).ownBlock = some j) w7 w8 := Fr.grown ((Fr.refl _ w7).alloc _) hg8 (fun j hj _ => hj); have hq8 := hF8.kept HW7.out.ptr (fun e => by obtain ⟨cur, hc⟩ := owns_block HOW.out e; exact ne_of_types hc HW7.out.ptr (by decide) rfl); have e1 : w8.cell? ⟨q, 4, none⟩ = some (.slice ia ids.length ic) := (by first | (rw [cell_of_block hq8]; done) | (rw [cell_of_block hq8]; rfl)); have e2 : w8.frozen? ⟨q, 4, none⟩ = false := frozen_of_block hq8 4; have HN := Lib.hid (HN7.out w8 oa oc hO8 hg8 hat8); clear hF8 hq8 hO8 hg8 hat8)
      go_roundw
      case rel => exact ⟨k + 1, _, _, L2, by omega, by go_num, HN.out⟩
      case measure => simp [intOf]; omega
    · obtain rfl : k = ms.length + 1 := by have := HRL.out; omega
      have HBG := Lib.hid (fun W (hf : Fr0 wr W) => (⟨q, p, w.heap.size, ra, la, _, vi, L, ids, rfl, by rw [HL0.out, HR0.out]; exact hr.kept0 hf⟩ : BegP w ms (.returned (.tuple #[.pointer (some ⟨q, 0, none⟩), .bool true])) W))
      have q6 : decide (((ms.length + 1 : Nat) : Int) < (rs.length : Int)) = false := decide_eq_false (by omega)
      clear hr hk
      go_wp2_with fail
      refine (st_New100 _).mono ?_
      rintro e w10 ⟨rfl, f10, hS10, hz10⟩
      have HF10 := Lib.hid f10
      have CL := Lib.hid (st_Letter hS10 97 (by omega) (by omega) (by simp) (by simp))
      have HS10 := Lib.hid hS10
      have LZ := Lib.hid hz10
      clear f10 hS10 hz10
      go_wp2_with fail
      refine CL.out.mono ?_
      rintro e w11 ⟨rfl, hst⟩
      obtain ⟨r1, r2⟩ := Sto.step (B := wr.heap.size) HS10.out (by omega) (by omega) (fun k hk => by simp [Value.ownBlock] at hk) (by have := LZ.out; omega) hst
      have hR : Room wr.heap.size w11 (wr.heap.size + 1) wr.heap.size 100 (addL [] (letterEnt 97)) (8 * (0 : Int).toNat + 3 * (3 * 1 + 1)) := ⟨r1, by have := HF10.out.size; have := r2.size; omega, O2.out, O3.out, by rw [O4.out]; decide, by rw [O4.out]; decide⟩
      have CA := Lib.hid (edit_Apply_ins (at_ := 1) 1 hR O1.out O1.out (by omega) (by simp) (by simp) (by simp [lst]))
      have HK := Lib.hid r2
      clear r1 r2 hst CL HS10 hR
      generalize addI [] (letterEnt 97) = ida at *
      generalize wr.heap.size + 1 = px at *
      go_wp2_with fail
      refine CA.out.mono ?_
      rintro e w12 ⟨L2, id2, d2, k2, rfl, hS2, hK2, g2, b2, -⟩
      have hl2 := b2.len g2.dok g2.sok
      have HW2 : Hid ((entAt L2 id2).wt.len = 2) := hl2.symm
      have CW := Lib.hid (sto_Weight hS2 id2 b2.known)
      have HK2 := Lib.hid (HK.out.trans hK2)
      clear hS2 hK2 g2 b2 hl2 CA HK
      rw [HW2.out] at CW
      generalize (entAt L2 id2).wt = x at *
      go_wp2_with fail
      refine CW.out.mono ?_
      rintro e w13 ⟨rfl, f13⟩
      have HX := Lib.hid (HBG.out _ (((Kp.fr0 HF10.out HK2.out (Nat.le_refl _)).trans f13).alloc (.cells #[.int .i64 2, .int .i64 x.lines, .int .i64 x.head, .int .i64 x.tail, .int .u64 x.val, .int .u64 x.scale] 157 (0, 0))))
      clear HBG HF10 HK2 f13 CW
      go_wp2_with fail
      go_quiet (fail)
      go_wp2_with fail
      go_ret2
      exact BegP.drewN HX.out _

end Go.Proofs.YtclpndigmidjkaaGreat

/- The walks of law 36's world: text, edit, unknown, length. -/
set_option linter.unusedSimpArgs false
set_option linter.unusedVariables false
namespace Go.Proofs.YtclpndigmidjkaaGreat
open Go.RowKit

theorem pick_idx {w : World} {B : Nat} {v : Value} {rs : List Int} (h : w.ownsRow B 39 1 v rs.length (rs.map fun x => Value.int .i64 x)) (n : Int) (h0 : 0 < rs.length) : ∃ (i g c : Nat) (x : Int), n % (rs.length : Int) = (i : Int) ∧ i < rs.length ∧ v = .slice (some ⟨g, 0, none⟩) rs.length c ∧ w.cell? ⟨g, i, none⟩ = some (.int .i64 x) ∧ rs[i]? = some x := by
  have h2 := Int.emod_nonneg n (show (rs.length : Int) ≠ 0 by omega)
  have h3 := Int.emod_lt_of_pos n (show 0 < (rs.length : Int) by omega)
  have hi : (n % (rs.length : Int)).toNat < rs.length := by omega
  obtain ⟨g, cap, rfl, _, _⟩ := h.form (by omega)
  exact ⟨(n % (rs.length : Int)).toNat, g, cap, _, by omega, hi, rfl, owns_cell h _ _ (by rw [List.getElem?_map, List.getElem?_eq_getElem hi]; rfl), List.getElem?_eq_getElem hi⟩

set_option maxRecDepth 100000 in
set_option maxHeartbeats 2000000 in
theorem law36_text {w0 w : World} {q p mb : Nat} {rv lv va vi : Value} {L0 L : List Ent} {rs ids : List Int} {k : Nat} (h : BgR w0 w q p mb rv lv va vi L0 L rs ids k) (hk : k = rs.length) (hp : 0 < k) (hp2 : k ≤ 100) (n : Int) (h0 : -9223372036854775808 ≤ n) (h1 : n ≤ 9223372036854775807) :
    Calls Tryz.prog 41 #[.pointer (some ⟨q, 0, none⟩), .int .i64 n] w (TxPost w) := by
  have CL := Lib.hid (sto_Len h.wd.st)
  obtain ⟨c0, c1, c2, c3, c4, cf, lq⟩ := h.wd.front
  have hLb : L.length ≤ L0.length + 15677 * tri k := h.gr.len
  by_cases k4 : n = -4
  · subst k4
    clear h hk
    go_enter Tryz.func41, Tryz.ntmps41
    go_wp2_with fail
    go_ret2
    exact ⟨_, _, rfl, Fr0.refl w⟩
  · have d4 : (n == -4) = false := by simpa using k4
    by_cases k5 : n = -5
    · subst k5
      clear h hk
      go_enter Tryz.func41, Tryz.ntmps41
      go_wp2_with fail
      refine CL.out.mono ?_
      rintro e w1 ⟨rfl, rfl⟩
      go_wp2_with fail
      go_ret2
      exact ⟨_, _, rfl, Fr0.refl w⟩
    · have d5 : (n == -5) = false := by simpa using k5
      by_cases k6 : 1000 ≤ n
      · have d6 : decide (1000 ≤ n) = true := decide_eq_true k6
        obtain ⟨i, g, c, x, hi, hi2, rfl, hc, _⟩ := pick_idx h.any n (by omega)
        have ht : n.tmod (rs.length : Int) = (i : Int) := by rw [Int.tmod_eq_emod_of_nonneg (by omega)]; exact hi
        have z0 : ((rs.length : Int) == 0) = false := beq_eq_false_iff_ne.2 (by omega)
        have x1 : (0 : Int) ≤ (i : Int) := by omega
        have x2 : (i : Int) < (rs.length : Int) := by omega
        have x3 : (rs.length : Int) ≠ 0 := by omega
        have x4 : 0 < rs.length := by omega
        clear h hk hLb k4 k5
        go_enter Tryz.func41, Tryz.ntmps41
        go_wp2_with fail
        go_quiet (fail)
        go_wp2_with fail
        go_ret2
        exact ⟨_, _, rfl, (Fr0.refl w).drewN _⟩
      · have d6 : decide (1000 ≤ n) = false := decide_eq_false k6
        obtain ⟨i, g, c, x, hi, hi2, rfl, hc, _⟩ := pick_idx h.own n (by rw [h.len]; omega)
        obtain ⟨ia, ja, ca, xa, _, hia, rfl, _, _⟩ := pick_idx h.any n (by omega)
        have hc2 : ∃ xb, w.cell? ⟨ja, i, none⟩ = some (.int .i64 xb) := ⟨rs[i]'(by have := h.len; omega), owns_cell h.any i _ (by rw [List.getElem?_map, List.getElem?_eq_getElem (by have := h.len; omega)]; rfl)⟩
        obtain ⟨xb, hcb⟩ := hc2
        have CP : Hid (∀ W : World, Calls Tryz.prog 54 #[.int .i64 n, .int .i64 ids.length] W fun e w' => e = .returned (.int .i64 (i : Int)) ∧ W = w') := Lib.hid (fun W => by rw [← hi]; exact ref12_Pick n ids.length W h0 h1 (by have := h.len; omega) (by have := h.len; omega))
        have x1 : (0 : Int) ≤ (i : Int) := by omega
        have x2 : (i : Int) < (ids.length : Int) := by omega
        have x3 : (i : Int) < (rs.length : Int) := by have := h.len; omega
        clear h hk hi hLb k4 k5
        go_enter Tryz.func41, Tryz.ntmps41
        go_wp2_with fail
        refine (CP.out _).mono ?_
        rintro e w1 ⟨rfl, rfl⟩
        go_wp2_with fail
        go_quiet (fail)
        go_wp2_with fail
        go_ret2
        exact ⟨_, _, rfl, (Fr0.refl w).drewN _⟩

set_option maxRecDepth 100000 in
set_option maxHeartbeats 1000000 in
theorem law36_edit {w0 w : World} {q p mb : Nat} {rv lv va vi : Value} {L0 L : List Ent} {rs ids : List Int} {kk : Nat} (h : BgR w0 w q p mb rv lv va vi L0 L rs ids kk) (hk : kk = rs.length) (hp : 0 < kk) (hp2 : kk ≤ 100) (k a n t pk : Int) (h0 : -9223372036854775808 ≤ pk) (h1 : pk ≤ 9223372036854775807) :
    Calls Tryz.prog 36 #[.pointer (some ⟨q, 0, none⟩), .agg #[.int .i64 k, .int .i64 a, .int .i64 n, .int .i64 t, .int .i64 pk]] w (EdPost w k a n t) := by
  have CT := Lib.hid (fun W (hf : Fr0 w W) => law36_text (h.kept0 hf) hk hp hp2 pk h0 h1)
  clear h hk hp hp2
  go_enter Tryz.func36, Tryz.ntmps36
  go_wp2_with fail
  refine (CT.out _ (((Fr0.refl w).alloc _).alloc _)).mono ?_
  rintro e w1 ⟨x, y, rfl, f1⟩
  have hb0 := f1.kept (alloc2_0 _ _ _)
  have hb1 := f1.kept (alloc2_1 _ _ _)
  have F1 := (((Fr0.refl w).alloc _).alloc _).trans f1
  obtain ⟨r1, r2, r3, r4, r5, lr⟩ := cells5 hb0
  obtain ⟨s1, s2, s3, s4, s5, ls⟩ := cells5 hb1
  have hfz : ∀ o, w1.frozen? ⟨w.heap.size + 1, o, none⟩ = false := fun o => frozen_of_block hb1 o
  clear hb0 hb1 f1
  go_wp2_with fail
  refine bodyPost_ret (v := .tuple #[.agg #[.int .i64 k, .int .i64 a, .int .i64 n, .int .i64 t, .int .i64 x], .int .i64 y]) (by simp [results, Tryz.results36, go_sem, *]) rfl ⟨x, y, rfl, ?_⟩
  (repeat' (first | (with_reducible exact F1) | (with_reducible refine Fr0.setCell ?_ _ _ ?_) | (with_reducible refine Fr0.alloc ?_ _) | (with_reducible refine Fr0.drew ?_))) <;> first | omega | (dsimp only; omega) | (simp; done) | (simp; omega)

set_option maxRecDepth 100000 in
set_option maxHeartbeats 1000000 in
theorem law36_unknown {w0 w : World} {q p mb : Nat} {rv lv va vi : Value} {L : List Ent} (h : Wd w0 w q p mb rv lv va vi L) (id : Int) (b : Bool) (hb : b = (decide (id < 0) || decide ((L.length : Int) < id))) :
    Calls Tryz.prog 38 #[.pointer (some ⟨q, 0, none⟩), .int .i64 id] w fun e w' => e = .returned (.bool b) ∧ w = w' := by
  have C1 := Lib.hid (sto_Len h.st)
  have HB := Lib.hid hb
  obtain ⟨c0, c1, c2, c3, c4, cf, lq⟩ := h.front
  clear h hb
  by_cases h0 : id < 0
  · have hd : decide (id < 0) = true := decide_eq_true h0
    go_enter Tryz.func38, Tryz.ntmps38
    go_wp2_with fail
    go_ret
    exact ⟨by rw [HB.out]; simp [hd], rfl⟩
  · have hd : decide (id < 0) = false := by simpa using h0
    go_enter Tryz.func38, Tryz.ntmps38
    go_wp2_with fail
    refine C1.out.mono ?_
    rintro e w1 ⟨rfl, rfl⟩
    go_wp2_with fail
    go_ret
    exact ⟨by rw [HB.out]; simp [hd], rfl⟩

set_option maxRecDepth 100000 in
set_option maxHeartbeats 1000000 in
theorem law36_length {w0 w : World} {q p mb : Nat} {rv lv va vi : Value} {L : List Ent} (h : Wd w0 w q p mb rv lv va vi L) (id : Int) (hk : isKnown L id) :
    Calls Tryz.prog 40 #[.pointer (some ⟨q, 0, none⟩), .int .i64 id] w fun e w' => e = .returned (.int .i64 (entAt L id).wt.len) ∧ Fr0 w w' := by
  have CW := Lib.hid (sto_Weight h.st id hk)
  obtain ⟨c0, c1, c2, c3, c4, cf, lq⟩ := h.front
  clear h hk
  generalize (entAt L id).wt = y at *
  go_enter Tryz.func40, Tryz.ntmps40
  go_wp2_with fail
  refine CW.out.mono ?_
  rintro e w1 ⟨rfl, f1⟩
  go_wp2_with fail
  go_ret
  exact ⟨rfl, f1.alloc _⟩

end Go.Proofs.YtclpndigmidjkaaGreat

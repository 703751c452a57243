/- The reference's balance over a store's rules. -/
import Derived.Test.YtclpndigmidjkaaGreatQMk7
set_option linter.unusedSimpArgs false
set_option linter.unusedVariables false
namespace Go.Proofs.YtclpndigmidjkaaGreat
open Go.RowKit

theorem info_bool : (Tryz.prog.info? 4).map (fun i => (i.zero, i.size, i.bytes)) = some (some (.bool false), 1, 1) := by kernel_rfl
theorem rt_bool : RT 37 4 1 1 := by
  obtain ⟨i, h1, h2, h3, h4⟩ := info_parts info_bool
  exact ⟨by omega, i, _, Tryz.underlying37, h1, h2, h3, h4, rfl⟩

theorem wpList_pushB {ST T : TypeId} (hT : RT ST T 1 1) {w : World} {ops : Array Oper} {rest : List Oper} {o : Oper} {a : Act} {Q : Exit → Act → World → Prop} (hgd : o.guard = none) (s x : Operand)
    (ho : o.op = .call { callee := .builtin .append, args := #[s, x], argTypes := #[ST, ST] })
    (base : Nat) (v : Value) (xs : List Bool) (hs : a.eval s = v) (hown : w.ownsRow base T 1 v xs.length (xs.map Value.bool)) (hb : base ≤ w.heap.size) (T' : TypeId) (y : Bool) (c H : Nat) (hH : w.heap.size = H) (hx : a.eval x = .slice (some ⟨H, 0, none⟩) 1 c) (hlen : xs.length ≤ 1000000)
    (h : ∀ v' w', w'.ownsRow base T 1 v' (xs ++ [y]).length ((xs ++ [y]).map Value.bool) → (w.alloc (.cells #[.bool y] T' (0, 0))).grownBy w' v.ownBlock → (v'.ownBlock = v.ownBlock ∨ v'.ownBlock = some (w.heap.size + 1)) → wpList Tryz.prog ops Q rest (a.put o.dst v') w') :
    wpList Tryz.prog ops Q (o :: rest) a (w.alloc (.cells #[.bool y] T' (0, 0))) := by
  subst hH
  refine wpList_append_rt hT hgd s x ho base v xs.length _ hs (hown.alloc _) _ 1 [.bool y] hx (src_one w _ T' c) rfl (by simp [Value.oneCell']) (by unfold maxLen; omega) (by omega) (by simp; omega) ?_
  intro v' w' h1 h2 h3
  exact h v' w' (by simpa using h1) h2 (by simpa using h3)

/-- The balance of the first k IDs. -/
def evL (L : List Ent) (k : Nat) : List Bool := (List.range k).map fun (i : Nat) => (entAt L (i : Int)).even
theorem evL_len (L : List Ent) (k : Nat) : (evL L k).length = k := by simp [evL]
theorem evL_succ (L : List Ent) (k : Nat) : evL L (k + 1) = evL L k ++ [(entAt L (k : Int)).even] := by simp [evL, List.range_succ]
theorem evL_at (L : List Ent) (k i : Nat) (h : i < k) : (evL L k)[i]? = some (entAt L (i : Int)).even := by
  simp [evL, List.getElem?_range h]

theorem ev_rule {L : List Ent} (hD : DOk L) (hO : SOk L) (k : Nat) (hk : k < L.length) :
    ∃ (i j : Nat), L[k].rule.left = (i : Int) ∧ L[k].rule.right = (j : Int) ∧ i ≤ k ∧ j ≤ k ∧
      (entAt L ((k + 1 : Nat) : Int)).even = (if L[k].rule.kind = 2 then (entAt L (i : Int)).even && (entAt L (j : Int)).even && decide (-1 ≤ (entAt L (i : Int)).depth - (entAt L (j : Int)).depth) && decide ((entAt L (i : Int)).depth - (entAt L (j : Int)).depth ≤ 1) else L[k].rule.kind == 1) := by
  have e := entAt_succ L k hk
  rw [show ((k + 1 : Nat) : Int) = (k : Int) + 1 by omega, e]
  rcases hD k hk with ⟨h1, h2⟩ | ⟨h1, ⟨a, b, c, d⟩, h2⟩ | ⟨h1, ⟨a, b⟩, h2⟩
  · refine ⟨0, 0, ?_, ?_, by omega, by omega, ?_⟩
    · rw [h2]; rfl
    · rw [h2]; rfl
    · rw [if_neg (by omega), h1, h2]; rfl
  · refine ⟨L[k].rule.left.toNat, L[k].rule.right.toNat, by omega, by omega, by omega, by omega, ?_⟩
    rw [if_pos h1, show ((L[k].rule.left.toNat : Nat) : Int) = L[k].rule.left by omega, show ((L[k].rule.right.toNat : Nat) : Int) = L[k].rule.right by omega]
    exact congrArg Ent.even h2
  · have hr : L[k].rule.right = 0 := by rw [h2]; rfl
    refine ⟨L[k].rule.left.toNat, 0, by omega, by omega, by omega, by omega, ?_⟩
    rw [if_neg (by omega), h1]
    exact congrArg Ent.even h2

def evv (b : Bool) : List Value := [.bool b]
theorem evv_map (xs : List Bool) : xs.flatMap evv = xs.map Value.bool := by
  induction xs with
  | nil => rfl
  | cons a r ih => rw [List.flatMap_cons, ih]; rfl

theorem owns_lowB {w : World} {b1 b2 : Nat} {T : TypeId} {size n : Nat} {v : Value} {xs : List Value} (h : w.ownsRow b1 T size v n xs) (hb : b2 ≤ b1) : w.ownsRow b2 T size v n xs := by
  obtain ⟨h1, h2⟩ := h
  refine ⟨h1, ?_⟩
  rcases h2 with h2 | ⟨g, cap, cur, e1, e2, e3⟩
  · exact .inl h2
  · exact .inr ⟨g, cap, cur, e1, Nat.le_trans hb e2, e3⟩

/-- The state of Balanced's loop. -/
structure BlR (w wr : World) (L : List Ent) (k : Nat) (v : Value) : Prop where
  fr : Fr0 w wr
  own : wr.ownsRow w.heap.size 4 1 v (evL L (k + 1)).length ((evL L (k + 1)).map Value.bool)

theorem BlR.idx {w : World} {B : Nat} {a : Option Addr} {L : List Ent} {k i : Nat} (h : RG evv 1 B w a (evL L k)) (hi : i < k) : ∃ b off, a = some ⟨b, off, none⟩ ∧ b < w.heap.size ∧ w.cell? ⟨b, off + i, none⟩ = some (.bool (entAt L (i : Int)).even) := by
  obtain ⟨b, off, ha, lb, _, hc⟩ := h i (by rw [evL_len]; exact hi)
  refine ⟨b, off, ha, lb, ?_⟩
  have h1 := hc 0 _ rfl
  have h2 := evL_at L k i hi
  rw [List.getElem?_eq_getElem (by rw [evL_len]; exact hi)] at h2
  rw [Option.some.inj h2, Nat.mul_one, Nat.add_zero] at h1
  exact h1

theorem dep_idx {w : World} {B : Nat} {a : Option Addr} {L : List Ent} {k i : Nat} (h : RG idv 1 B w a (depL L k)) (hi : i < k) : ∃ b off, a = some ⟨b, off, none⟩ ∧ b < w.heap.size ∧ w.cell? ⟨b, off + i, none⟩ = some (.int .i64 (entAt L (i : Int)).depth) := by
  obtain ⟨b, off, ha, lb, _, hc⟩ := h i (by rw [depL_len]; exact hi)
  refine ⟨b, off, ha, lb, ?_⟩
  have h1 := hc 0 _ rfl
  have h2 := depL_at L k i hi
  rw [List.getElem?_eq_getElem (by rw [depL_len]; exact hi)] at h2
  rw [Option.some.inj h2, Nat.mul_one, Nat.add_zero] at h1
  exact h1

set_option maxRecDepth 100000 in
set_option maxHeartbeats 4000000 in
theorem ref13_Balanced {w : World} {va vb : Value} {L : List Ent} (hS : RSt w va vb L) (hD : DOk L) (hO : SOk L) (hl : L.length ≤ 100) :
    Calls Tryz.prog 13 #[va] w fun e w' => ∃ v, e = .returned v ∧ Fr0 w w' ∧ w'.ownsRow w.heap.size 4 1 v (L.length + 1) ((evL L (L.length + 1)).map Value.bool) := by
  have CD := Lib.hid (ref13_Depths hS hD hO hl)
  obtain ⟨⟨a, cap, rfl, hR, _⟩, _, _, _⟩ := hS
  have HR := Lib.hid hR
  have HD := Lib.hid (ev_rule hD hO)
  have HO := Lib.hid hO
  clear hR hD hO
  go_enter Tryz.func13, Tryz.ntmps13
  go_wp2_with fail
  refine CD.out.mono ?_
  rintro e w1 ⟨v1, rfl, hf1, ho1⟩
  obtain ⟨da, dcap, rfl, hdr⟩ := rg_of_own (xs := depL L (L.length + 1)) (vals := idv) (size := 1) (B := 0) (w := w1) (fun _ _ => rfl) (by rw [idvL_map, depL_len]; exact ho1) (by decide) (by decide)
  have HDR := Lib.hid hdr
  have HF1 := Lib.hid hf1
  have HS1 : Hid (w.heap.size ≤ w1.heap.size) := Lib.hid (Fr.size hf1)
  have H0 : Hid (BlR w1 (w1.alloc (.cells #[.bool true] 4 (0, 0))) L 0 (.slice (some ⟨w1.heap.size, 0, none⟩) 1 1)) :=
    ⟨(Fr0.refl w1).alloc _, ⟨rfl, .inr ⟨w1.heap.size, 1, #[.bool true], rfl, Nat.le_refl _, alloc_at w1 _ _ rfl, Nat.le_refl _, by unfold maxLen; omega, rfl, rfl⟩⟩⟩
  rw [depL_len]
  clear CD ho1 hdr hf1
  go_wp2_with fail
  go_loopw [4, 14] (fun v i wr => ∃ (k : Nat), k ≤ L.length ∧ i = .int .i64 k ∧ BlR w1 wr L k v) (fun _ i _ => L.length - (intOf i).toNat)
  case atStart => exact ⟨0, Nat.zero_le _, rfl, H0.out⟩
  case round =>
    clear H0
    obtain ⟨k, hk, rfl, hr⟩ := hrel
    have hln := evL_len L (k + 1)
    by_cases hlt : k < L.length
    · obtain ⟨b, off, rfl, lb, _, hc⟩ := (HR.out.kept0 (HF1.out.trans hr.fr)) k hlt
      obtain ⟨ca, ccap, rfl, hrg⟩ := rg_of_own (vals := evv) (size := 1) (B := 0) (w := wr) (fun _ _ => rfl) (by rw [evv_map]; exact hr.own) (by decide) (by decide)
      obtain ⟨i, j, e1, e2, hi, hj, hev⟩ := HD.out k hlt
      have c0 := hc 0 _ rfl
      have c1 := hc 1 _ rfl
      have c2 := hc 2 _ rfl
      have c3 := hc 3 _ rfl
      have c4 := hc 4 _ rfl
      rw [Nat.add_zero] at c0
      rw [e1] at c2
      rw [e2] at c3
      obtain ⟨ib, ioff, hca, ilb, gi⟩ := BlR.idx (i := i) hrg (by omega)
      obtain ⟨jb, joff, hcb, jlb, gj⟩ := BlR.idx (i := j) hrg (by omega)
      subst hca
      cases hcb
      have hdr1 := HDR.out.kept0 hr.fr
      obtain ⟨xb, xoff, hda, xlb, di⟩ := dep_idx (i := i) hdr1 (by omega)
      obtain ⟨yb, yoff, hdb, ylb, dj⟩ := dep_idx (i := j) hdr1 (by omega)
      have HDA := Lib.hid hda
      rw [hda] at hdb
      cases hdb
      have hbi := (HO.out.at (i : Int) ⟨by omega, by omega⟩)
      have hbj := (HO.out.at (j : Int) ⟨by omega, by omega⟩)
      have bi0 := hbi.2.1
      have bi1 := hbi.2.2.1
      have bj0 := hbj.2.1
      have bj1 := hbj.2.2.1
      have q2 : decide (k < L.length) = true := decide_eq_true hlt
      have HRR := Lib.hid hr
      have HEV := Lib.hid hev
      subst hda
      clear hc hr hrg hev hbi hbj hdr1 HDA
      generalize (entAt L (i : Int)).depth = x at *
      generalize (entAt L (j : Int)).depth = y at *
      generalize (entAt L (i : Int)).even = ei at *
      generalize (entAt L (j : Int)).even = ej at *
      generalize hru : L[k].rule.kind = kk at *
      clear hru
      have q0 : (0 : Int) ≤ (k : Int) := by omega
      have q1 : (k : Int) < (L.length : Int) := by omega
      have p0 : (0 : Int) ≤ (i : Int) := by omega
      have p1 : (i : Int) < ((evL L (k + 1)).length : Int) := by omega
      have p2 : (0 : Int) ≤ (j : Int) := by omega
      have p3 : (j : Int) < ((evL L (k + 1)).length : Int) := by omega
      have p4 : (i : Int) < ((L.length + 1 : Nat) : Int) := by omega
      have p5 : (j : Int) < ((L.length + 1 : Nat) : Int) := by omega
      clear hln
      generalize L[k].rule.letter = lt at *
      generalize L[k].rule.times = tm at *
      have hrl : (evL L (k + 1)).length ≤ 1000000 := by rw [evL_len]; omega
      have HSU := Lib.hid (evL_succ L (k + 1))
      generalize hDL : evL L (k + 1) = ds at *
      have HDL := Lib.hid hDL
      clear hDL
      have F6 := Lib.hid ((Fr0.refl wr).alloc (.cells #[.int .i64 kk, .int .u8 lt, .int .i64 i, .int .i64 j, .int .i64 tm] 132 (0, 0)))
      have HN := Lib.hid (alloc_at wr (.cells #[.int .i64 kk, .int .u8 lt, .int .i64 i, .int .i64 j, .int .i64 tm] 132 (0, 0)) _ rfl)
      have FIN : Hid (∀ (W : World) (z : Bool), Fr0 wr W → (if kk = 2 then ei && ej && decide (-1 ≤ x - y) && decide (x - y ≤ 1) else kk == 1) = z → W.ownsRow w1.heap.size 4 1 (.slice (some ⟨ib, ioff, none⟩) ds.length ccap) ds.length (ds.map Value.bool) ∧ w1.heap.size ≤ W.heap.size ∧
          ∀ v' w8, w8.ownsRow w1.heap.size 4 1 v' (ds ++ [z]).length ((ds ++ [z]).map Value.bool) → (W.alloc (.cells #[.bool z] 4 (0, 0))).grownBy w8 (Value.ownBlock (.slice (some ⟨ib, ioff, none⟩) ds.length ccap)) → BlR w1 w8 L (k + 1) v') := by
        refine Lib.hid ?_
        intro W z hW hz
        have h := hW.owns HRR.out.own
        rw [HDL.out] at h
        refine ⟨h, Fr.size (HRR.out.fr.trans hW), fun v' w8 hO8 hg8 => ⟨Fr.grown ((HRR.out.fr.trans hW).alloc _) hg8 (fun j hj hlt => by have := (h.lt j hj).1; omega), ?_⟩⟩
        rw [HSU.out, HEV.out, hz]
        exact hO8
      clear HSU HEV
      by_cases hk2 : kk = 2
      · have kd2 : (kk == 2) = true := beq_iff_eq.2 hk2
        have kd1 : (kk == 1) = false := beq_eq_false_iff_ne.2 (by omega)
        have HZ := Lib.hid (if_pos hk2 : (if kk = 2 then ei && ej && decide (-1 ≤ x - y) && decide (x - y ≤ 1) else kk == 1) = _)
        clear hk2
        go_wp2_with fail
        have hF6 := F6.out
        generalize wr.alloc (.cells #[.int .i64 kk, .int .u8 lt, .int .i64 i, .int .i64 j, .int .i64 tm] 132 (0, 0)) = W6 at *
        have di6 := (hF6.cell _ _ xlb).trans di
        have dj6 := (hF6.cell _ _ xlb).trans dj
        have gi6 := (hF6.cell _ _ ilb).trans gi
        have gj6 := (hF6.cell _ _ ilb).trans gj
        generalize wr.heap.size = NB at *
        obtain ⟨n0, n1, n2, n3, n4⟩ := cells5q HN.out
        clear di dj c0 c1 c2 c3 c4 hF6 gi gj
        go_quiet (fail)
        have F7 : Hid (Fr0 wr (W6.drewN nq)) := Lib.hid (F6.out.drewN nq)
        have n2' : (W6.drewN nq).cell? ⟨NB, 2, none⟩ = some (.int .i64 i) := n2
        have n3' : (W6.drewN nq).cell? ⟨NB, 3, none⟩ = some (.int .i64 j) := n3
        have gi7 : (W6.drewN nq).cell? ⟨ib, ioff + i, none⟩ = some (.bool ei) := gi6
        have gj7 : (W6.drewN nq).cell? ⟨ib, ioff + j, none⟩ = some (.bool ej) := gj6
        clear n0 n1 n2 n3 n4 di6 dj6 gi6 gj6 HN F6
        generalize W6.drewN nq = W7 at *
        have xy0 : -1000 ≤ x - y := by omega
        have xy1 : x - y ≤ 1000 := by omega
        generalize x - y = d at *
        cases ei
        · have ZEQ : (false && ej && decide (-1 ≤ d) && decide (d ≤ 1)) = false := by simp
          obtain ⟨hrow, hbs, hfin⟩ := FIN.out W7 false F7.out (HZ.out.trans ZEQ)
          have HFIN := Lib.hid hfin
          clear hfin HZ FIN ZEQ
          go_wp2_with (at_builtin; refine wpList_pushB rt_bool rfl _ _ rfl w1.heap.size _ ds rfl hrow hbs 4 false 1 _ (by simp) rfl hrl ?_; intro v' w8 hO8 hg8 hat8)
          have hX := HFIN.out v' w8 hO8 hg8
          go_roundw
          case rel => exact ⟨k + 1, by omega, by go_num, hX⟩
          case measure => simp [intOf]; omega
        · cases ej
          · have ZEQ : (true && false && decide (-1 ≤ d) && decide (d ≤ 1)) = false := by simp
            obtain ⟨hrow, hbs, hfin⟩ := FIN.out W7 false F7.out (HZ.out.trans ZEQ)
            have HFIN := Lib.hid hfin
            clear hfin HZ FIN ZEQ
            go_wp2_with (at_builtin; refine wpList_pushB rt_bool rfl _ _ rfl w1.heap.size _ ds rfl hrow hbs 4 false 1 _ (by simp) rfl hrl ?_; intro v' w8 hO8 hg8 hat8)
            have hX := HFIN.out v' w8 hO8 hg8
            go_roundw
            case rel => exact ⟨k + 1, by omega, by go_num, hX⟩
            case measure => simp [intOf]; omega
          · by_cases d1 : -1 ≤ d
            · have e1 : decide (-1 ≤ d) = true := decide_eq_true d1
              by_cases d2 : d ≤ 1
              · have e2 : decide (d ≤ 1) = true := decide_eq_true d2
                have ZEQ : (true && true && decide (-1 ≤ d) && decide (d ≤ 1)) = true := by rw [e1, e2]; rfl
                obtain ⟨hrow, hbs, hfin⟩ := FIN.out W7 true F7.out (HZ.out.trans ZEQ)
                have HFIN := Lib.hid hfin
                clear hfin HZ FIN ZEQ
                go_wp2_with (at_builtin; refine wpList_pushB rt_bool rfl _ _ rfl w1.heap.size _ ds rfl hrow hbs 4 true 1 _ (by simp) rfl hrl ?_; intro v' w8 hO8 hg8 hat8)
                have hX := HFIN.out v' w8 hO8 hg8
                go_roundw
                case rel => exact ⟨k + 1, by omega, by go_num, hX⟩
                case measure => simp [intOf]; omega
              · have e2 : decide (d ≤ 1) = false := decide_eq_false d2
                have ZEQ : (true && true && decide (-1 ≤ d) && decide (d ≤ 1)) = false := by rw [e1, e2]; rfl
                obtain ⟨hrow, hbs, hfin⟩ := FIN.out W7 false F7.out (HZ.out.trans ZEQ)
                have HFIN := Lib.hid hfin
                clear hfin HZ FIN ZEQ
                go_wp2_with (at_builtin; refine wpList_pushB rt_bool rfl _ _ rfl w1.heap.size _ ds rfl hrow hbs 4 false 1 _ (by simp) rfl hrl ?_; intro v' w8 hO8 hg8 hat8)
                have hX := HFIN.out v' w8 hO8 hg8
                go_roundw
                case rel => exact ⟨k + 1, by omega, by go_num, hX⟩
                case measure => simp [intOf]; omega
            · have e1 : decide (-1 ≤ d) = false := decide_eq_false d1
              have ZEQ : (true && true && decide (-1 ≤ d) && decide (d ≤ 1)) = false := by rw [e1]; rfl
              obtain ⟨hrow, hbs, hfin⟩ := FIN.out W7 false F7.out (HZ.out.trans ZEQ)
              have HFIN := Lib.hid hfin
              clear hfin HZ FIN ZEQ
              go_wp2_with (at_builtin; refine wpList_pushB rt_bool rfl _ _ rfl w1.heap.size _ ds rfl hrow hbs 4 false 1 _ (by simp) rfl hrl ?_; intro v' w8 hO8 hg8 hat8)
              have hX := HFIN.out v' w8 hO8 hg8
              go_roundw
              case rel => exact ⟨k + 1, by omega, by go_num, hX⟩
              case measure => simp [intOf]; omega
      · have kd2 : (kk == 2) = false := beq_eq_false_iff_ne.2 hk2
        have HZ := Lib.hid (if_neg hk2 : (if kk = 2 then ei && ej && decide (-1 ≤ x - y) && decide (x - y ≤ 1) else kk == 1) = (kk == 1))
        clear hk2
        generalize hk1 : (kk == 1) = z1 at *
        obtain ⟨hrow, hbs, hfin⟩ := FIN.out (wr.alloc (.cells #[.int .i64 kk, .int .u8 lt, .int .i64 i, .int .i64 j, .int .i64 tm] 132 (0, 0))) z1 F6.out HZ.out
        have HFIN := Lib.hid hfin
        clear hfin
        go_wp2_with (at_builtin; refine wpList_pushB rt_bool rfl _ _ rfl w1.heap.size _ ds rfl hrow hbs 4 z1 1 _ (by simp) rfl hrl ?_; intro v' w8 hO8 hg8 hat8)
        have hX := HFIN.out v' w8 hO8 hg8
        go_roundw
        case rel => exact ⟨k + 1, by omega, by go_num, hX⟩
        case measure => simp [intOf]; omega
    · have hke : k = L.length := by omega
      have q2 : decide (k < L.length) = false := decide_eq_false hlt
      obtain ⟨ca, ccap, rfl⟩ := owns_form hr.own
      have hF := hr.fr
      have hO := hr.own
      rw [evL_len] at hO
      rw [hke] at hO
      have HF := Lib.hid (HF1.out.trans hF)
      have HOO := Lib.hid (owns_lowB hO HS1.out)
      rw [hke, evL_len]
      clear hr hF hO HR HD HO hlt q2 hke hln HDR HF1
      have q3 : decide (L.length < L.length) = false := decide_eq_false (by omega)
      go_wp2_with fail
      exact bodyPost_ret (v := .slice ca (L.length + 1) ccap) (by simp [results, Tryz.results13, go_sem]) rfl ⟨_, rfl, HF.out, HOO.out⟩

end Go.Proofs.YtclpndigmidjkaaGreat

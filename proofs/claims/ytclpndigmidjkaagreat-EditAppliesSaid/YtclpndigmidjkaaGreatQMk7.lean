/- The reference's depths over a store's rules. -/
import Derived.Test.YtclpndigmidjkaaGreatQMk4
import Derived.Test.YtclpndigmidjkaaGreatQd
import Derived.BigQuiet
import Derived.Deep.QuietTactic
set_option linter.unusedSimpArgs false
set_option linter.unusedVariables false
namespace Go.Proofs.YtclpndigmidjkaaGreat
open Go.RowKit

theorem oneL_dok {L : List Ent} (hD : DOk L) {m : Mk} {rs : List Int} (hk : ∀ x ∈ rs, isKnown L x) : DOk (oneL L m rs).1 := by
  have kl := pick_known hk m.left
  have kr := pick_known hk m.right
  unfold oneL
  by_cases c0 : m.kind % 4 = 0
  · rw [if_pos c0]; exact hD.letter _
  · rw [if_neg c0]
    by_cases c3 : m.kind % 4 = 3
    · rw [if_pos c3]
      by_cases c : pickR rs m.left = 0 ∨ m.times ≤ 0 ∨ MaxL / (entAt L (pickR rs m.left)).wt.len < m.times
      · rw [if_pos c]; exact hD
      · rw [if_neg c]
        by_cases t2 : m.times = 1
        · rw [if_pos t2]; exact hD
        · rw [if_neg t2]; exact hD.pow _ _ kl (fun h => c (.inl h))
    · rw [if_neg c3]
      by_cases l0 : pickR rs m.left = 0
      · rw [if_pos l0]; exact hD
      · rw [if_neg l0]
        by_cases r0 : pickR rs m.right = 0
        · rw [if_pos r0]; exact hD
        · rw [if_neg r0]
          by_cases hd : MaxL - (entAt L (pickR rs m.right)).wt.len < (entAt L (pickR rs m.left)).wt.len
          · rw [if_pos hd]; exact hD
          · rw [if_neg hd]; exact hD.pair _ _ kl kr l0 r0

theorem allL_dok (ms : List Mk) (hm : ∀ m ∈ ms, m.Ok) : ∀ k, k ≤ ms.length → DOk (allL (ms.take k)).1 := by
  intro k
  induction k with
  | zero => exact fun _ => DOk.nil
  | succ k ih =>
    intro hk
    rw [allL_take ms k (by omega)]
    exact oneL_dok (ih (by omega)) (allL_ok ms hm k (by omega)).2.1

/-- The depths of the first k IDs. -/
def depL (L : List Ent) (k : Nat) : List Int := (List.range k).map fun (i : Nat) => (entAt L (i : Int)).depth
theorem depL_len (L : List Ent) (k : Nat) : (depL L k).length = k := by simp [depL]
theorem depL_succ (L : List Ent) (k : Nat) : depL L (k + 1) = depL L k ++ [(entAt L (k : Int)).depth] := by simp [depL, List.range_succ]
theorem depL_at (L : List Ent) (k i : Nat) (h : i < k) : (depL L k)[i]? = some (entAt L (i : Int)).depth := by
  simp [depL, List.getElem?_range h]

/-- An entry's rule by its parts. -/
theorem dep_rule {L : List Ent} (hD : DOk L) (hO : SOk L) (k : Nat) (hk : k < L.length) :
    ∃ (i j : Nat), L[k].rule.left = (i : Int) ∧ L[k].rule.right = (j : Int) ∧ i ≤ k ∧ j ≤ k ∧
      (entAt L ((k + 1 : Nat) : Int)).depth = (if L[k].rule.kind = 1 then 0 else 1 + max (entAt L (i : Int)).depth (entAt L (j : Int)).depth) := by
  have e := entAt_succ L k hk
  rw [show ((k + 1 : Nat) : Int) = (k : Int) + 1 by omega, e]
  rcases hD k hk with ⟨h1, h2⟩ | ⟨h1, ⟨a, b, c, d⟩, h2⟩ | ⟨h1, ⟨a, b⟩, h2⟩
  · refine ⟨0, 0, ?_, ?_, by omega, by omega, ?_⟩
    · rw [h2]; rfl
    · rw [h2]; rfl
    · rw [if_pos h1, h2]; rfl
  · refine ⟨L[k].rule.left.toNat, L[k].rule.right.toNat, by omega, by omega, by omega, by omega, ?_⟩
    rw [if_neg (by omega), show ((L[k].rule.left.toNat : Nat) : Int) = L[k].rule.left by omega, show ((L[k].rule.right.toNat : Nat) : Int) = L[k].rule.right by omega]
    exact congrArg Ent.depth h2
  · have hr : L[k].rule.right = 0 := by rw [h2]; rfl
    refine ⟨L[k].rule.left.toNat, 0, by omega, by omega, by omega, by omega, ?_⟩
    have hn := (hO.at L[k].rule.left ⟨by omega, by omega⟩).2.1
    rw [if_neg (by omega), show ((L[k].rule.left.toNat : Nat) : Int) = L[k].rule.left by omega]
    have h3 : L[k].depth = 1 + (entAt L L[k].rule.left).depth := congrArg Ent.depth h2
    rw [h3]
    show 1 + (entAt L L[k].rule.left).depth = 1 + max (entAt L L[k].rule.left).depth (0 : Int)
    omega

theorem cells5q {w : World} {k : Nat} {u0 u1 u2 u3 u4 : Value} {T : TypeId} {f : Nat × Nat} (h : w.heap[k]? = some (.cells #[u0, u1, u2, u3, u4] T f)) :
    w.cell? ⟨k, 0, none⟩ = some u0 ∧ w.cell? ⟨k, 1, none⟩ = some u1 ∧ w.cell? ⟨k, 2, none⟩ = some u2 ∧ w.cell? ⟨k, 3, none⟩ = some u3 ∧ w.cell? ⟨k, 4, none⟩ = some u4 := by
  simp [World.cell?, h]

/-- The state of Depths' loop. -/
structure DpR (w wr : World) (L : List Ent) (k : Nat) (v : Value) : Prop where
  fr : Fr0 w wr
  own : wr.ownsRow w.heap.size 3 1 v (depL L (k + 1)).length ((depL L (k + 1)).map fun x => Value.int .i64 x)

theorem idvL_map (xs : List Int) : xs.flatMap idv = xs.map fun x => Value.int .i64 x := by
  induction xs with
  | nil => rfl
  | cons a r ih => rw [List.flatMap_cons, ih]; rfl

set_option maxRecDepth 100000 in
set_option maxHeartbeats 4000000 in
theorem ref13_Depths {w : World} {va vb : Value} {L : List Ent} (hS : RSt w va vb L) (hD : DOk L) (hO : SOk L) (hl : L.length ≤ 100) :
    Calls Tryz.prog 59 #[va] w fun e w' => ∃ v, e = .returned v ∧ Fr0 w w' ∧ w'.ownsRow w.heap.size 3 1 v (L.length + 1) ((depL L (L.length + 1)).map fun x => Value.int .i64 x) := by
  obtain ⟨⟨a, cap, rfl, hR, _⟩, _, _, _⟩ := hS
  have HR := Lib.hid hR
  have HD := Lib.hid (dep_rule hD hO)
  have HO := Lib.hid hO
  clear hR hD hO
  have H0 : Hid (DpR w (w.alloc (.cells #[.int .i64 0] 3 (0, 0))) L 0 (.slice (some ⟨w.heap.size, 0, none⟩) 1 1)) :=
    ⟨(Fr0.refl w).alloc _, ⟨rfl, .inr ⟨w.heap.size, 1, #[.int .i64 0], rfl, by omega, alloc_at w _ _ rfl, Nat.le_refl _, by unfold maxLen; omega, rfl, rfl⟩⟩⟩
  go_enter Tryz.func59, Tryz.ntmps59
  go_wp2_with fail
  go_loopw [3, 10] (fun v i wr => ∃ (k : Nat), k ≤ L.length ∧ i = .int .i64 k ∧ DpR w wr L k v) (fun _ i _ => L.length - (intOf i).toNat)
  case atStart => exact ⟨0, Nat.zero_le _, rfl, H0.out⟩
  case round =>
    clear H0
    obtain ⟨k, hk, rfl, hr⟩ := hrel
    have hln := depL_len L (k + 1)
    by_cases hlt : k < L.length
    · obtain ⟨b, off, rfl, lb, _, hc⟩ := (HR.out.kept0 hr.fr) k hlt
      obtain ⟨ca, ccap, rfl, hrg⟩ := rg_of_own (vals := idv) (size := 1) (B := 0) (w := wr) (fun _ _ => rfl) (by rw [idvL_map]; exact hr.own) (by decide) (by decide)
      obtain ⟨i, j, e1, e2, hi, hj, hdep⟩ := HD.out k hlt
      have c0 := hc 0 _ rfl
      have c1 := hc 1 _ rfl
      have c2 := hc 2 _ rfl
      have c3 := hc 3 _ rfl
      have c4 := hc 4 _ rfl
      rw [Nat.add_zero] at c0
      rw [e1] at c2
      rw [e2] at c3
      obtain ⟨ib, ioff, hca, ilb, _, ic⟩ := hrg i (by omega)
      obtain ⟨jb, joff, hcb, jlb, _, jc⟩ := hrg j (by omega)
      subst hca
      cases hcb
      have di := ic 0 _ rfl
      have dj := jc 0 _ rfl
      have hwi : (depL L (k + 1))[i]'(by omega) = (entAt L (i : Int)).depth := by
        have := depL_at L (k + 1) i (by omega)
        rw [List.getElem?_eq_getElem (by omega)] at this
        exact Option.some.inj this
      have hwj : (depL L (k + 1))[j]'(by omega) = (entAt L (j : Int)).depth := by
        have := depL_at L (k + 1) j (by omega)
        rw [List.getElem?_eq_getElem (by omega)] at this
        exact Option.some.inj this
      rw [hwi] at di
      rw [hwj] at dj
      have hbi := (HO.out.at (i : Int) ⟨by omega, by omega⟩)
      have hbj := (HO.out.at (j : Int) ⟨by omega, by omega⟩)
      have bi0 := hbi.2.1
      have bi1 := hbi.2.2.1
      have bj0 := hbj.2.1
      have bj1 := hbj.2.2.1
      rw [Nat.mul_one, Nat.add_zero] at di dj
      have q2 : decide (k < L.length) = true := decide_eq_true hlt
      have HRR := Lib.hid hr
      have HDEP := Lib.hid hdep
      clear hc hr hrg hdep hbi hbj hwi hwj ic jc
      generalize (entAt L (i : Int)).depth = x at *
      generalize (entAt L (j : Int)).depth = y at *
      generalize hru : L[k].rule.kind = kk at *
      clear hru
      have q0 : (0 : Int) ≤ (k : Int) := by omega
      have q1 : (k : Int) < (L.length : Int) := by omega
      have p0 : (0 : Int) ≤ (i : Int) := by omega
      have p1 : (i : Int) < ((depL L (k + 1)).length : Int) := by omega
      have p2 : (0 : Int) ≤ (j : Int) := by omega
      have p3 : (j : Int) < ((depL L (k + 1)).length : Int) := by omega
      clear hln
      generalize L[k].rule.letter = lt at *
      generalize L[k].rule.times = tm at *
      have hrl : (depL L (k + 1)).length ≤ 1000000 := by rw [depL_len]; omega
      have HSU := Lib.hid (depL_succ L (k + 1))
      generalize hDL : depL L (k + 1) = ds at *
      have HDL := Lib.hid hDL
      clear hDL
      have F6 := Lib.hid ((Fr0.refl wr).alloc (.cells #[.int .i64 kk, .int .u8 lt, .int .i64 i, .int .i64 j, .int .i64 tm] 132 (0, 0)))
      have hrow0 := F6.out.owns HRR.out.own
      rw [HDL.out] at hrow0
      have HROW := Lib.hid hrow0
      have HBS7 : Hid (w.heap.size ≤ (wr.alloc (.cells #[.int .i64 kk, .int .u8 lt, .int .i64 i, .int .i64 j, .int .i64 tm] 132 (0, 0))).heap.size) := Lib.hid (Fr.size (HRR.out.fr.trans F6.out))
      have HN := Lib.hid (alloc_at wr (.cells #[.int .i64 kk, .int .u8 lt, .int .i64 i, .int .i64 j, .int .i64 tm] 132 (0, 0)) _ rfl)
      clear hrow0
      by_cases hk1 : kk = 1
      · have kd : (kk == 1) = true := beq_iff_eq.2 hk1
        have HK := Lib.hid (if_pos hk1 : (if kk = 1 then (0 : Int) else 1 + max x y) = 0)
        have E1 := Lib.hid hk1
        clear hk1
        go_wp2_with (at_builtin; rw [← E1.out] ; refine wpList_pushR rt_int rfl _ _ rfl w.heap.size _ ds rfl HROW.out HBS7.out 3 0 1 _ (by simp) rfl hrl ?_; intro v' w8 hO8 hg8 hat8)
        have hX : DpR w w8 L (k + 1) v' := by
          refine ⟨Fr.grown ((HRR.out.fr.trans F6.out).alloc _) hg8 (fun j hj hlt => by have := (HROW.out.lt j hj).1; omega), ?_⟩
          rw [HSU.out, HDEP.out, HK.out]
          exact hO8
        go_roundw
        case rel => exact ⟨k + 1, by omega, by go_num, hX⟩
        case measure => simp [intOf]; omega
      · have kd : (kk == 1) = false := beq_eq_false_iff_ne.2 hk1
        have HK := Lib.hid (if_neg hk1 : (if kk = 1 then (0 : Int) else 1 + max x y) = 1 + max x y)
        clear hk1
        go_wp2_with fail
        have hF6 := F6.out
        generalize wr.alloc (.cells #[.int .i64 kk, .int .u8 lt, .int .i64 i, .int .i64 j, .int .i64 tm] 132 (0, 0)) = W6 at *
        have di6 := (hF6.cell _ _ ilb).trans di
        have dj6 := (hF6.cell _ _ ilb).trans dj
        generalize wr.heap.size = NB at *
        obtain ⟨n0, n1, n2, n3, n4⟩ := cells5q HN.out
        clear di dj c0 c1 c2 c3 c4 hF6
        go_quiet (fail)
        have F7 : Hid (Fr0 wr (W6.drewN nq)) := Lib.hid (F6.out.drewN nq)
        have HROW7 : Hid ((W6.drewN nq).ownsRow w.heap.size 3 1 (.slice (some ⟨ib, ioff, none⟩) ds.length ccap) ds.length (ds.map fun x => Value.int .i64 x)) := by
          have h := F7.out.owns HRR.out.own
          rw [HDL.out] at h
          exact Lib.hid h
        have HBS8 : Hid (w.heap.size ≤ (W6.drewN nq).heap.size) := Lib.hid (Fr.size (HRR.out.fr.trans F7.out))
        have hmx : (if x < y then y else x) = max x y := by split <;> omega
        rw [hmx]
        clear hmx HBS7 HROW di6 dj6 n0 n1 n2 n3 n4 HN F6
        generalize 1 + max x y = z at *
        generalize W6.drewN nq = W7 at *
        go_wp2_with (at_builtin; refine wpList_pushR rt_int rfl _ _ rfl w.heap.size _ ds rfl HROW7.out HBS8.out 3 z 1 _ (by simp) rfl hrl ?_; intro v' w8 hO8 hg8 hat8)
        have hX : DpR w w8 L (k + 1) v' := by
          refine ⟨Fr.grown ((HRR.out.fr.trans F7.out).alloc _) hg8 (fun j hj hlt => by have := (HROW7.out.lt j hj).1; omega), ?_⟩
          rw [HSU.out, HDEP.out, HK.out]
          exact hO8
        go_roundw
        case rel => exact ⟨k + 1, by omega, by go_num, hX⟩
        case measure => simp [intOf]; omega
    · have hke : k = L.length := by omega
      have q2 : decide (k < L.length) = false := decide_eq_false hlt
      obtain ⟨ca, ccap, rfl⟩ := owns_form hr.own
      have hF := hr.fr
      have hO := hr.own
      rw [depL_len] at hO
      rw [hke] at hO
      have HF := Lib.hid hF
      have HOO := Lib.hid hO
      rw [hke, depL_len]
      clear hr hF hO HR HD HO hlt q2 hke hln
      have q3 : decide (L.length < L.length) = false := decide_eq_false (by omega)
      go_wp2_with fail
      exact bodyPost_ret (v := .slice ca (L.length + 1) ccap) (by simp [results, Tryz.results59, go_sem]) rfl ⟨_, rfl, HF.out, HOO.out⟩

end Go.Proofs.YtclpndigmidjkaaGreat

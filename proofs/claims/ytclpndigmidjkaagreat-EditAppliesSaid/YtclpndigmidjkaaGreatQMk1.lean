/- The walk of evergreenref12.Add. -/
import Derived.Test.YtclpndigmidjkaaGreatQMk0
set_option linter.unusedSimpArgs false
set_option linter.unusedVariables false
namespace Go.Proofs.YtclpndigmidjkaaGreat
open Go.RowKit

set_option maxRecDepth 100000 in
set_option maxHeartbeats 4000000 in
theorem ref12_Add {w : World} {va vb : Value} {L : List Ent} (hS : RSt w va vb L) (x : Ent) (hl : L.length ≤ 1000) :
    Calls Tryz.prog 99 #[.agg #[va, vb], .agg #[.int .i64 x.rule.kind, .int .u8 x.rule.letter, .int .i64 x.rule.left, .int .i64 x.rule.right, .int .i64 x.rule.times], .int .i64 x.wt.len] w fun e w' => ∃ va' vb', e = .returned (.tuple #[.agg #[va', vb'], .int .i64 (addI L x)]) ∧ Fr0 w w' ∧ RSt w' va' vb' (addL L x) := by
  have HSS := Lib.hid hS
  obtain ⟨⟨ra, rcap, rfl, hru, hrn⟩, ⟨la, lcap, rfl, hle, hln⟩, _, _⟩ := hS
  have HRN := Lib.hid hrn
  have HLN := Lib.hid hln
  clear hrn hln
  have HRU := Lib.hid hru
  have HLE := Lib.hid hle
  clear hru hle
  go_enter Tryz.func99, Tryz.ntmps99
  go_wp2_with fail
  generalize hW0 : ((w.alloc (.cells #[.slice ra L.length rcap, .slice la L.length lcap] 34 (0, 0))).alloc (.cells #[.int .i64 x.rule.kind, .int .u8 x.rule.letter, .int .i64 x.rule.left, .int .i64 x.rule.right, .int .i64 x.rule.times] 132 (0, 0))).alloc (.cells #[.slice none 0 0, .slice none 0 0] 34 (0, 0)) = W0 at *
  have hB : Fr0 w W0 ∧ W0.heap[w.heap.size]? = some (.cells #[.slice ra L.length rcap, .slice la L.length lcap] 34 (0, 0)) ∧ W0.heap[w.heap.size + 1]? = some (.cells #[.int .i64 x.rule.kind, .int .u8 x.rule.letter, .int .i64 x.rule.left, .int .i64 x.rule.right, .int .i64 x.rule.times] 132 (0, 0)) ∧ W0.heap[w.heap.size + 1 + 1]? = some (.cells #[.slice none 0 0, .slice none 0 0] 34 (0, 0)) := by
    rw [← hW0]
    exact ⟨(((Fr0.refl w).alloc _).alloc _).alloc _, alloc3_0 w _ _ _, alloc3_1 w _ _ _, alloc3_2 w _ _ _⟩
  obtain ⟨F0, hz0, hz1, hz2⟩ := hB
  have HF0 := Lib.hid F0
  have HZ0 := Lib.hid hz0
  have HZ1 := Lib.hid hz1
  have HZ2 := Lib.hid hz2
  obtain ⟨Z, hZ⟩ : ∃ Z, Z = w.heap.size := ⟨_, rfl⟩
  rw [← hZ] at HZ0 HZ1 HZ2 ⊢
  have HZS := Lib.hid hZ
  clear hW0 F0 hz0 hz1 hz2 hZ
  go_loopw [8] (fun i wr => ∃ k : Nat, k ≤ L.length ∧ i = .int .i64 k ∧ Fr0 W0 wr ∧ Hid (∀ j (hj : j < L.length), j < k → L[j].rule ≠ x.rule)) (fun i _ => L.length - (intOf i).toNat)
  case atStart => exact ⟨0, Nat.zero_le _, rfl, Fr0.refl _, fun j hj h => absurd h (by omega)⟩
  case round =>
    obtain ⟨k, hk, rfl, hf, HB⟩ := hrel
    have hz0 := hf.kept HZ0.out
    have hz1 := hf.kept HZ1.out
    have hz2 := hf.kept HZ2.out
    obtain ⟨a0, a1, la0⟩ := cells2w hz0
    obtain ⟨g0, g1, gf, lg⟩ := cells2f hz2
    have HG2 := Lib.hid hz2
    obtain ⟨r0, r1, r2, r3, r4, lr⟩ := cells5w' hz1
    by_cases hlt : k < L.length
    · obtain ⟨b, off, rfl, lb, _, hc⟩ := (HRU.out.kept0 (HF0.out.trans hf)) k hlt
      have c0 := hc 0 _ rfl
      have c1 := hc 1 _ rfl
      have c2 := hc 2 _ rfl
      have c3 := hc 3 _ rfl
      have c4 := hc 4 _ rfl
      rw [Nat.add_zero] at c0
      have HRU2 := HRU
      clear hc hz0 hz1 hz2 HRU
      have q0 : decide (k < L.length) = true := decide_eq_true hlt
      by_cases hq : L[k].rule = x.rule
      · have hcmp := rule_eql L[k].rule x.rule
        rw [decide_eq_true hq] at hcmp
        have HI := Lib.hid (idx_some hlt hq HB.out)
        have HRS : Hid (∀ W', Fr0 w W' → RSt W' (.slice (some ⟨b, off, none⟩) L.length rcap) (.slice la L.length lcap) L) := fun W' hW' => HSS.out.kept0 hW'
        clear hq HB
        go_wp2_with fail
        go_quiet (fail)
        go_wp2_with fail
        have hE := setCell_block (setCell_block (w := wr.drewN nq) HG2.out 0 (.slice (some ⟨b, off, none⟩) L.length rcap)) 1 (.slice la L.length lcap)
        obtain ⟨e0, e1, _⟩ := cells2w hE
        have hFF : Fr0 w (((wr.drewN nq).setCell ⟨Z + 1 + 1, 0, none⟩ (.slice (some ⟨b, off, none⟩) L.length rcap)).setCell ⟨Z + 1 + 1, 1, none⟩ (.slice la L.length lcap)) := (((HF0.out.trans hf).drewN nq).setCell _ _ (by have := HZS.out; show _ ≤ Z + 1 + 1; omega)).setCell _ _ (by have := HZS.out; show _ ≤ Z + 1 + 1; omega)
        refine bodyPost_ret (v := .tuple #[.agg #[.slice (some ⟨b, off, none⟩) L.length rcap, .slice la L.length lcap], .int .i64 ((k : Int) + 1)]) (by simp [results, Tryz.results99, go_sem, e0, e1]) rfl ⟨_, _, by rw [addI_some HI.out], hFF, ?_⟩
        rw [addL_some HI.out]
        exact HRS.out _ hFF
      · have hcmp := rule_eql L[k].rule x.rule
        rw [decide_eq_false hq] at hcmp
        have HB2 : Hid (∀ j (hj : j < L.length), j < k + 1 → L[j].rule ≠ x.rule) := by
          intro j hj h
          by_cases e : j = k
          · subst e; exact hq
          · exact HB.out j hj (by omega)
        clear hq HB
        generalize L[k].rule = y at *
        go_wp2_with fail
        go_quiet (fail)
        go_wp2_with fail
        go_roundw
        case rel => exact ⟨k + 1, by omega, by go_num, hf.drewN _, HB2.out⟩
        case measure => simp [intOf]; omega
    · have q0 : decide (k < L.length) = false := decide_eq_false hlt
      have HI := Lib.hid (idx_none (r := x.rule) (fun j hj => HB.out j hj (by omega)))
      clear hlt hk HB hz1 r0 r1 r2 r3 r4 lr g0 g1 gf lg
      clear hz0 hz2
      go_wp2_with fail
      clear a0 a1 la0
      generalize hA : ({ tmps := _, defers := _ } : Act) = a0
      have h3 : a0.eval (.tmp 3) = .pointer (some ⟨Z, 0, none⟩) := by rw [← hA]; rfl
      have h4 : a0.eval (.tmp 4) = .pointer (some ⟨Z + 1, 0, none⟩) := by rw [← hA]; rfl
      have h6 : a0.eval (.tmp 6) = .pointer (some ⟨Z + 1 + 1, 0, none⟩) := by rw [← hA]; rfl
      have h2 : a0.eval (.tmp 2) = .int .i64 x.wt.len := by rw [← hA]; rfl
      have hsz : a0.tmps.size = 45 := by rw [← hA]; rfl
      have HA := Lib.hid hA
      clear hA
      obtain ⟨SL, hSL⟩ : ∃ SL : List Nat, SL = [26, 27, 28, 29, 30, 31, 32, 33, 34, 35, 36, 37, 38, 39, 40, 41, 42, 43, 44, 7] := ⟨_, rfl⟩
      refine region_inv (by kernel_rfl) (by kernel_rfl) SL (AddG wr Z L x ra la rcap lcap) ?_ ?_ ?_
      · exact ⟨(Fr.refl _ wr).drew, Ch.start _ _ _ _ _ _ _ _ _ _ _, Ch.start _ _ _ _ _ _ _ _ _ _ _, (by intro h; cases h), (by intro h; cases h), (by intro h; cases h), (by intro h; cases h), (by intro h; cases h), (by intro h; cases h), (by intro h; cases h), (by intro h; cases h), (by intro h; cases h), (by intro h; cases h), (by intro h; cases h), (by intro h; cases h), fun _ => HG2.out, (by intro h; cases h)⟩
      · refine all_idx0 _ ⟨?_, ?_, ?_, ?_, ?_, ?_, ?_, ?_, ?_, ?_, ?_, ?_, ?_, ?_, ?_, ?_, ?_, ?_, ?_, ?_, ?_, trivial⟩
        all_goals intro d v w2 hd hdeps hG
        · -- 0
          refine wp_yields (v := .slice (some ⟨w2.heap.size, 0, none⟩) 0 0) (w' := w2.alloc (.cells #[] 132 (0, 0))) ?_ ⟨updV v 26 _, puts_put v _ (by rw [hSL]; decide), hG.s0 hd⟩
          simp only [execOp]
          go_simp
        · -- 1
          have e3 := (eval_puts_not (a := a0) (slots := SL) v (s := 3) (by rw [hSL]; decide)).trans h3
          refine wp_yields (v := .pointer (some ⟨Z, 0, none⟩)) (w' := w2) ?_ ⟨updV v 27 (.pointer (some ⟨Z, 0, none⟩)), puts_put v _ (by rw [hSL]; decide), hG.s1⟩
          simp only [execOp, e3]
          go_simp
        · -- 2
          have e27 : (putsF a0 SL v).eval (.tmp 27) = v 27 := eval_puts v (by rw [hSL]; decide) (by rw [hsz]; decide)
          have d1 : d 1 = true := hdeps ⟨1, .data⟩ (by simp) rfl
          rw [hG.e1 d1] at e27
          have hz := hG.fr.kept (hf.kept HZ0.out) (by omega)
          obtain ⟨c0, c1, lc⟩ := cells2w hz
          refine wp_yields (v := .slice ra L.length rcap) (w' := w2) ?_ ⟨updV v 28 (.slice ra L.length rcap), puts_put v _ (by rw [hSL]; decide), hG.s2⟩
          simp only [execOp, e27]
          go_simp
        · -- 3
          have e26 : (putsF a0 SL v).eval (.tmp 26) = v 26 := eval_puts v (by rw [hSL]; decide) (by rw [hsz]; decide)
          have e28 : (putsF a0 SL v).eval (.tmp 28) = v 28 := eval_puts v (by rw [hSL]; decide) (by rw [hsz]; decide)
          have d0 : d 0 = true := hdeps ⟨0, .data⟩ (by simp) rfl
          have d2 : d 2 = true := hdeps ⟨2, .data⟩ (by simp) rfl
          rw [hG.e2 d2] at e28
          have F2 : Fr0 w w2 := Fr.trans (HF0.out.trans hf) hG.fr (fun i e hi => by have := HZS.out; omega)
          have hrg := HRU.out.kept0 F2
          refine wp_append_rt rt_rule _ _ (by rfl) wr.heap.size (v 26) 0 [] e26 (hG.a.cp d0 hd) _ L.length (L.flatMap rlv) e28 (src_rg hrg (fun _ _ => rfl) (by omega) HRN.out) (flat_len rlv 5 L (fun _ _ => rfl)) ?_ (by unfold maxLen; omega) (by omega) hG.fr.size ?_
          · intro u hu
            obtain ⟨y, _, hy⟩ := List.mem_flatMap.1 hu
            simp [rlv, Rl.vals] at hy
            rcases hy with rfl | rfl | rfl | rfl | rfl <;> rfl
          · intro v2 w3 q1 q2 q3
            exact ⟨updV v 29 v2, puts_put v _ (by rw [hSL]; decide), hG.s3 hd d0 q1 q2 q3⟩
        · -- 4
          have e4 := (eval_puts_not (a := a0) (slots := SL) v (s := 4) (by rw [hSL]; decide)).trans h4
          have hz := hG.fr.kept (hf.kept HZ1.out) (by omega)
          obtain ⟨r0, r1, r2, r3, r4, lr⟩ := cells5w' hz
          refine wp_yields (v := .agg #[.int .i64 x.rule.kind, .int .u8 x.rule.letter, .int .i64 x.rule.left, .int .i64 x.rule.right, .int .i64 x.rule.times]) (w' := w2) ?_ ⟨updV v 30 (.agg #[.int .i64 x.rule.kind, .int .u8 x.rule.letter, .int .i64 x.rule.left, .int .i64 x.rule.right, .int .i64 x.rule.times]), puts_put v _ (by rw [hSL]; decide), hG.s4⟩
          simp only [execOp, e4]
          go_simp
        · -- 5
          have e30 : (putsF a0 SL v).eval (.tmp 30) = v 30 := eval_puts v (by rw [hSL]; decide) (by rw [hsz]; decide)
          have d4 : d 4 = true := hdeps ⟨4, .data⟩ (by simp) rfl
          rw [hG.e4 d4] at e30
          refine wp_yields (v := .slice (some ⟨w2.heap.size, 0, none⟩) 1 1) (w' := w2.alloc (.cells #[.int .i64 x.rule.kind, .int .u8 x.rule.letter, .int .i64 x.rule.left, .int .i64 x.rule.right, .int .i64 x.rule.times] 132 (0, 0))) ?_ ⟨updV v 31 _, puts_put v _ (by rw [hSL]; decide), hG.s5 hd⟩
          simp only [execOp]
          simp only [List.map_toArray, List.map_cons, List.map_nil, e30]
          go_simp
        · -- 6
          have e29 : (putsF a0 SL v).eval (.tmp 29) = v 29 := eval_puts v (by rw [hSL]; decide) (by rw [hsz]; decide)
          have e31 : (putsF a0 SL v).eval (.tmp 31) = v 31 := eval_puts v (by rw [hSL]; decide) (by rw [hsz]; decide)
          have d3 : d 3 = true := hdeps ⟨3, .data⟩ (by simp) rfl
          have d5 : d 5 = true := hdeps ⟨5, .data⟩ (by simp) rfl
          obtain ⟨g, hg1, hg2⟩ := hG.a.cr d5 hd
          rw [hg1] at e31
          refine wp_append_rt rt_rule _ _ (by rfl) wr.heap.size (v 29) L.length (L.flatMap rlv) e29 (hG.a.cq d3 hd) _ 1 (rlv x) e31 (.inr ⟨_, 1, rfl, ?_⟩) (by simp [rlv, Rl.vals]) (by simp [rlv, Rl.vals, Value.oneCell']) (by unfold maxLen; omega) (by omega) hG.fr.size ?_
          · intro j u hj
            rw [add_offA, cell_of_block hg2, Nat.zero_add]
            simpa using hj
          · intro v2 w3 q1 q2 q3
            exact ⟨updV v 32 v2, puts_put v _ (by rw [hSL]; decide), hG.s6 hd d3 d5 q1 q2⟩
        · -- 7
          refine wp_yields (v := .slice (some ⟨w2.heap.size, 0, none⟩) 0 0) (w' := w2.alloc (.cells #[] 3 (0, 0))) ?_ ⟨updV v 33 _, puts_put v _ (by rw [hSL]; decide), hG.s7 hd⟩
          simp only [execOp]
          go_simp
        · -- 8
          have e3 := (eval_puts_not (a := a0) (slots := SL) v (s := 3) (by rw [hSL]; decide)).trans h3
          refine wp_yields (v := .pointer (some ⟨Z, 1, none⟩)) (w' := w2) ?_ ⟨updV v 34 (.pointer (some ⟨Z, 1, none⟩)), puts_put v _ (by rw [hSL]; decide), hG.s8⟩
          simp only [execOp, e3]
          go_simp
        · -- 9
          have e34 : (putsF a0 SL v).eval (.tmp 34) = v 34 := eval_puts v (by rw [hSL]; decide) (by rw [hsz]; decide)
          have d8 : d 8 = true := hdeps ⟨8, .data⟩ (by simp) rfl
          rw [hG.e8 d8] at e34
          have hz := hG.fr.kept (hf.kept HZ0.out) (by omega)
          obtain ⟨c0, c1, lc⟩ := cells2w hz
          refine wp_yields (v := .slice la L.length lcap) (w' := w2) ?_ ⟨updV v 35 (.slice la L.length lcap), puts_put v _ (by rw [hSL]; decide), hG.s9⟩
          simp only [execOp, e34]
          go_simp
        · -- 10
          have e33 : (putsF a0 SL v).eval (.tmp 33) = v 33 := eval_puts v (by rw [hSL]; decide) (by rw [hsz]; decide)
          have e35 : (putsF a0 SL v).eval (.tmp 35) = v 35 := eval_puts v (by rw [hSL]; decide) (by rw [hsz]; decide)
          have d7 : d 7 = true := hdeps ⟨7, .data⟩ (by simp) rfl
          have d9 : d 9 = true := hdeps ⟨9, .data⟩ (by simp) rfl
          rw [hG.e9 d9] at e35
          have F2 : Fr0 w w2 := Fr.trans (HF0.out.trans hf) hG.fr (fun i e hi => by have := HZS.out; omega)
          have hrg := HLE.out.kept0 F2
          refine wp_append_rt rt_int _ _ (by rfl) wr.heap.size (v 33) 0 [] e33 (hG.b.cp d7 hd) _ L.length (L.flatMap lnv) e35 (src_rg hrg (fun _ _ => rfl) (by omega) HLN.out) (flat_len lnv 1 L (fun _ _ => rfl)) ?_ (by unfold maxLen; omega) (by omega) hG.fr.size ?_
          · intro u hu
            obtain ⟨y, _, hy⟩ := List.mem_flatMap.1 hu
            simp [lnv] at hy
            subst hy
            rfl
          · intro v2 w3 q1 q2 q3
            exact ⟨updV v 36 v2, puts_put v _ (by rw [hSL]; decide), hG.s10 hd d7 q1 q2 q3⟩
        · -- 11
          have e2 := (eval_puts_not (a := a0) (slots := SL) v (s := 2) (by rw [hSL]; decide)).trans h2
          refine wp_yields (v := .int .i64 x.wt.len) (w' := w2) ?_ ⟨updV v 37 (.int .i64 x.wt.len), puts_put v _ (by rw [hSL]; decide), hG.s11⟩
          simp only [execOp, e2]
          go_simp
        · -- 12
          have e37 : (putsF a0 SL v).eval (.tmp 37) = v 37 := eval_puts v (by rw [hSL]; decide) (by rw [hsz]; decide)
          have d11 : d 11 = true := hdeps ⟨11, .data⟩ (by simp) rfl
          rw [hG.e11 d11] at e37
          refine wp_yields (v := .slice (some ⟨w2.heap.size, 0, none⟩) 1 1) (w' := w2.alloc (.cells #[.int .i64 x.wt.len] 3 (0, 0))) ?_ ⟨updV v 38 _, puts_put v _ (by rw [hSL]; decide), hG.s12 hd⟩
          simp only [execOp]
          simp only [List.map_toArray, List.map_cons, List.map_nil, e37]
          go_simp
        · -- 13
          have e36 : (putsF a0 SL v).eval (.tmp 36) = v 36 := eval_puts v (by rw [hSL]; decide) (by rw [hsz]; decide)
          have e38 : (putsF a0 SL v).eval (.tmp 38) = v 38 := eval_puts v (by rw [hSL]; decide) (by rw [hsz]; decide)
          have d10 : d 10 = true := hdeps ⟨10, .data⟩ (by simp) rfl
          have d12 : d 12 = true := hdeps ⟨12, .data⟩ (by simp) rfl
          obtain ⟨g, hg1, hg2⟩ := hG.b.cr d12 hd
          rw [hg1] at e38
          refine wp_append_rt rt_int _ _ (by rfl) wr.heap.size (v 36) L.length (L.flatMap lnv) e36 (hG.b.cq d10 hd) _ 1 (lnv x) e38 (.inr ⟨_, 1, rfl, ?_⟩) (by simp [lnv, Rl.vals]) (by simp [lnv, Rl.vals, Value.oneCell']) (by unfold maxLen; omega) (by omega) hG.fr.size ?_
          · intro j u hj
            rw [add_offA, cell_of_block hg2, Nat.zero_add]
            simpa using hj
          · intro v2 w3 q1 q2 q3
            exact ⟨updV v 39 v2, puts_put v _ (by rw [hSL]; decide), hG.s13 hd d10 d12 q1 q2⟩
        · -- 14
          have e32 : (putsF a0 SL v).eval (.tmp 32) = v 32 := eval_puts v (by rw [hSL]; decide) (by rw [hsz]; decide)
          have e39 : (putsF a0 SL v).eval (.tmp 39) = v 39 := eval_puts v (by rw [hSL]; decide) (by rw [hsz]; decide)
          have d6 : d 6 = true := hdeps ⟨6, .data⟩ (by simp) rfl
          have d13 : d 13 = true := hdeps ⟨13, .data⟩ (by simp) rfl
          obtain ⟨a32, c32, h32⟩ := owns_form (hG.a.cz d6)
          obtain ⟨a39, c39, h39⟩ := owns_form (hG.b.cz d13)
          have hs := hG.s14 d6 d13
          rw [h32, h39] at hs
          rw [h32] at e32
          rw [h39] at e39
          refine wp_yields (v := .agg #[.slice a32 (L.length + 1) c32, .slice a39 (L.length + 1) c39]) (w' := w2) ?_ ⟨updV v 40 _, puts_put v _ (by rw [hSL]; decide), hs⟩
          simp only [execOp]
          simp only [List.map_toArray, List.map_cons, List.map_nil, e32, e39]
          go_simp
        · -- 15
          have e3 := (eval_puts_not (a := a0) (slots := SL) v (s := 3) (by rw [hSL]; decide)).trans h3
          refine wp_yields (v := .pointer (some ⟨Z, 0, none⟩)) (w' := w2) ?_ ⟨updV v 41 (.pointer (some ⟨Z, 0, none⟩)), puts_put v _ (by rw [hSL]; decide), hG.s15⟩
          simp only [execOp, e3]
          go_simp
        · -- 16
          have e41 : (putsF a0 SL v).eval (.tmp 41) = v 41 := eval_puts v (by rw [hSL]; decide) (by rw [hsz]; decide)
          have d15 : d 15 = true := hdeps ⟨15, .data⟩ (by simp) rfl
          rw [hG.e15 d15] at e41
          have hz := hG.fr.kept (hf.kept HZ0.out) (by omega)
          obtain ⟨c0, c1, lc⟩ := cells2w hz
          refine wp_yields (v := .slice ra L.length rcap) (w' := w2) ?_ ⟨updV v 42 (.slice ra L.length rcap), puts_put v _ (by rw [hSL]; decide), hG.s16⟩
          simp only [execOp, e41]
          go_simp
        · -- 17
          have e42 : (putsF a0 SL v).eval (.tmp 42) = v 42 := eval_puts v (by rw [hSL]; decide) (by rw [hsz]; decide)
          have d16 : d 16 = true := hdeps ⟨16, .data⟩ (by simp) rfl
          rw [hG.e16 d16] at e42
          refine wp_yields (v := .int .i64 (L.length : Int)) (w' := w2) ?_ ⟨updV v 43 _, puts_put v _ (by rw [hSL]; decide), hG.s17⟩
          simp only [execOp, resolve, invoke, builtin, List.map_toArray, List.map_cons, List.map_nil, e42]
          go_simp
        · -- 18
          have e43 : (putsF a0 SL v).eval (.tmp 43) = v 43 := eval_puts v (by rw [hSL]; decide) (by rw [hsz]; decide)
          have d17 : d 17 = true := hdeps ⟨17, .data⟩ (by simp) rfl
          rw [hG.e17 d17] at e43
          refine wp_yields (v := .int .i64 ((L.length : Int) + 1)) (w' := w2) ?_ ⟨updV v 44 _, puts_put v _ (by rw [hSL]; decide), hG.s18⟩
          simp only [execOp, e43]
          go_simp
          exact IntWalk.i64_in _ (by omega)
        · -- 19
          have e40 : (putsF a0 SL v).eval (.tmp 40) = v 40 := eval_puts v (by rw [hSL]; decide) (by rw [hsz]; decide)
          have e6 := (eval_puts_not (a := a0) (slots := SL) v (s := 6) (by rw [hSL]; decide)).trans h6
          have d14 : d 14 = true := hdeps ⟨14, .data⟩ (by simp) rfl
          obtain ⟨h40, d6, d13⟩ := hG.e14 d14
          obtain ⟨a32, c32, h32⟩ := owns_form (hG.a.cz d6)
          obtain ⟨a39, c39, h39⟩ := owns_form (hG.b.cz d13)
          have hs := hG.s19 hd d6 d13
          rw [h32, h39] at hs
          rw [h40, h32, h39] at e40
          obtain ⟨g0, g1, gf, lg⟩ := cells2f (hG.z2 hd)
          refine wp_skips (w' := (w2.setCell ⟨Z + 1 + 1, 0, none⟩ (.slice a32 (L.length + 1) c32)).setCell ⟨Z + 1 + 1, 1, none⟩ (.slice a39 (L.length + 1) c39)) ?_ ⟨v, rfl, hs⟩
          simp only [execOp, e40, e6]
          go_simp
        · -- 20
          have e44 : (putsF a0 SL v).eval (.tmp 44) = v 44 := eval_puts v (by rw [hSL]; decide) (by rw [hsz]; decide)
          have d18 : d 18 = true := hdeps ⟨18, .data⟩ (by simp) rfl
          rw [hG.e18 d18] at e44
          refine wp_yields (v := .int .i64 ((L.length : Int) + 1)) (w' := w2) ?_ ⟨updV v 7 _, puts_put v _ (by rw [hSL]; decide), hG.s20⟩
          simp only [execOp, e44]
          go_simp
      · intro d v w2 hd hG
        have d6 := hd 6 (by simp)
        have d13 := hd 13 (by simp)
        have d19 := hd 19 (by simp)
        have d20 := hd 20 (by simp)
        have t6 : (putsF a0 SL v).tmps.getD 6 undef = .pointer (some ⟨Z + 1 + 1, 0, none⟩) := (eval_puts_not (a := a0) (slots := SL) v (s := 6) (by rw [hSL]; decide)).trans h6
        have t7 : (putsF a0 SL v).tmps.getD 7 undef = .int .i64 ((L.length : Int) + 1) := (eval_puts (a := a0) (slots := SL) v (s := 7) (by rw [hSL]; decide) (by rw [hsz]; decide)).trans (hG.e20 d20)
        have hdf : (putsF a0 SL v).defers = [] := by rw [(putsF_tmps SL a0 v).1, ← HA.out]
        obtain ⟨z0, z1, lz⟩ := cells2w (hG.e19 d19).1
        have ha := hG.a.cz d6
        have hb := hG.b.cz d13
        have F2 : Fr0 w w2 := Fr.trans (HF0.out.trans hf) hG.fr (fun i e hi => by have := HZS.out; omega)
        have hla : (L ++ [x]).length = L.length + 1 := by simp
        have hfa : (L ++ [x]).flatMap rlv = L.flatMap rlv ++ rlv x := by simp
        have hfb : (L ++ [x]).flatMap lnv = L.flatMap lnv ++ lnv x := by simp
        rw [← hla, ← hfa] at ha
        rw [← hla, ← hfb] at hb
        obtain ⟨a32, c32, h32, g32⟩ := rg_of_own (vals := rlv) (size := 5) (B := 0) (fun _ _ => rfl) ha (by decide) (by decide)
        obtain ⟨a39, c39, h39, g39⟩ := rg_of_own (vals := lnv) (size := 1) (B := 0) (fun _ _ => rfl) hb (by decide) (by decide)
        have n32 : a32 = none → c32 = 0 := by
          rintro rfl
          obtain ⟨b, off, h, _⟩ := g32 0 (by rw [hla]; omega)
          cases h
        have n39 : a39 = none → c39 = 0 := by
          rintro rfl
          obtain ⟨b, off, h, _⟩ := g39 0 (by rw [hla]; omega)
          cases h
        rw [h32] at z0
        rw [h39] at z1
        refine (show ∀ (a : Act) (w : World), Code.wp Tryz.prog Code.ret _ a w → _ from by assumption) _ _ ?_
        refine wp_ret (bodyPost_ret (v := .tuple #[.agg #[.slice a32 (L ++ [x]).length c32, .slice a39 (L ++ [x]).length c39], .int .i64 ((L.length : Int) + 1)]) ?_ hdf ⟨_, _, by rw [addI_none HI.out], F2, ?_⟩)
        · simp only [results, Tryz.results99]
          rw [Array.getD_eq_getD_getElem?] at t6 t7
          simp [go_sem, t6, t7, z0, z1]
        · rw [addL_none HI.out]
          rw [h32] at ha
          rw [h39] at hb
          refine ⟨⟨a32, c32, rfl, g32, n32⟩, ⟨a39, c39, rfl, g39, n39⟩, fun ad n c h => ?_, fun ad n c h => ?_⟩
          · cases h
            obtain ⟨cur, hc⟩ := owns_block ha rfl
            exact ⟨cur, _, hc⟩
          · cases h
            obtain ⟨cur, hc⟩ := owns_block hb rfl
            exact ⟨cur, _, hc⟩

end Go.Proofs.YtclpndigmidjkaaGreat

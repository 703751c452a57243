/- The walk of world.valid. -/
import Derived.Test.YtbokcmkbnkncoaaVal
import Derived.Deep.DeepCutAuto
import Derived.BigRegion
set_option linter.unusedSimpArgs false
set_option linter.unusedVariables false
namespace Go.Proofs.Ytbokcmkbnkncoaa
open Go.RowKit

/-- Lists of changes that the call has made. -/
structure Lists (w wr : World) (ov lv : Value) (out : List (List Chg)) (ls : List Int) : Prop where
  frame : Fr0 w wr
  own : ∃ vs : List Value, wr.ownsRow 0 31 1 ov out.length vs ∧ ∀ i (h : i < out.length), ∃ v, vs[i]? = some v ∧ wr.ownsRow 0 71 3 v out[i].length (chgCells out[i])
  lens : wr.ownsRow 0 3 1 lv ls.length (ls.map fun x => .int .i64 x)
  new : (∀ k, ov.ownBlock = some k → w.heap.size ≤ k) ∧ (∀ k, lv.ownBlock = some k → w.heap.size ≤ k)

theorem Lists.kept0 {w wr w' : World} {ov lv : Value} {out : List (List Chg)} {ls : List Int} (h : Lists w wr ov lv out ls) (hf : Fr0 wr w') : Lists w w' ov lv out ls := by
  obtain ⟨vs, h1, h2⟩ := h.own
  exact ⟨h.frame.trans hf, ⟨vs, hf.owns h1, fun i hi => by obtain ⟨v, a, b⟩ := h2 i hi; exact ⟨v, a, hf.owns b⟩⟩, hf.owns h.lens, h.new⟩

/-- What holds at the head of each round of the inner loop. -/
structure VIn (L : List Ent) (ids : List Int) (length : Int) (k : Nat) (ws wr : World) (v : Value) (at_ next : Int) (xs : List Chg) : Prop where
  frame : Fr0 ws wr
  own : wr.ownsRow 0 71 3 v xs.length (chgCells xs)
  new : ∀ j, v.ownBlock = some j → ws.heap.size ≤ j
  few : xs.length ≤ k
  formed : formedFrom length (-1) xs = true
  at_ : at_ = lastEnd (-1) xs + 1 ∧ 0 ≤ at_ ∧ at_ ≤ length + 1
  next : next = length - sumN xs + sumT (lnL L) xs ∧ 0 ≤ next ∧ next ≤ 1152921504606846976
  texts : ∀ c ∈ xs, isKnown L c.text ∧ (entAt L c.text).even = true
  nine : ∀ c ∈ xs, lnL L c.text ≤ 9

theorem VIn.mono {L : List Ent} {ids : List Int} {length : Int} {k k' : Nat} {ws wr w' : World} {v : Value} {at_ next : Int} {xs : List Chg} (h : VIn L ids length k ws wr v at_ next xs) (hf : Fr0 wr w') (hk : k ≤ k') : VIn L ids length k' ws w' v at_ next xs :=
  ⟨h.frame.trans hf, hf.owns h.own, h.new, by have := h.few; omega, h.formed, h.at_, h.next, h.texts, h.nine⟩

theorem patchErr_of {L : List Ent} {length : Int} {cs : List Chg} (h : ∀ c ∈ cs, isKnown L c.text ∧ (entAt L c.text).even = true) (hf : formedFrom length (-1) cs = true) : patchErr L length cs = 0 := by
  have h1 : unknownB L cs = false := List.any_eq_false.2 (fun c hc => by obtain ⟨⟨a, b⟩, _⟩ := h c hc; simp [a, b])
  have h2 : unevenB L cs = false := List.any_eq_false.2 (fun c hc => by simp [(h c hc).2])
  unfold patchErr
  rw [h1, hf, h2]
  rfl

theorem ids_facts {L : List Ent} {ids : List Int} (h : TextsOk L ids) (hl : ids.length = 10) {m : Nat} (hm : m ≤ 9) : isKnown L (ids.getD m 0) ∧ (entAt L (ids.getD m 0)).even = true ∧ lnL L (ids.getD m 0) = m ∧ (m ≠ 0 → ids.getD m 0 ≠ 0) := by
  have e : ids.getD m 0 = ids[m]'(by omega) := by rw [List.getD_eq_getElem?_getD, List.getElem?_eq_getElem (by omega)]; rfl
  rw [e]
  by_cases h0 : m = 0
  · subst h0
    rw [h.zero (by omega)]
    exact ⟨⟨by omega, by omega⟩, rfl, rfl, fun h => absurd rfl h⟩
  · obtain ⟨a, b, c, d⟩ := h.rest m (by omega) (by omega)
    exact ⟨a, d, c, fun _ => b⟩

theorem VIn.push {L : List Ent} {ids : List Int} {length : Int} {k : Nat} {ws W w1 : World} {v : Value} {at_ next : Int} {xs : List Chg} {o : Obj} {g cap : Nat} {P N idm : Int} {m : Nat} (h : VIn L ids length k ws W v at_ next xs) (hgrow : (W.alloc o).grownBy w1 v.ownBlock)
    (hown1 : w1.ownsRow 0 71 3 (.slice (some ⟨g, 0, none⟩) (xs.length + 1) cap) (xs.length + 1) (chgCells xs ++ [.int .i64 P, .int .i64 N, .int .i64 idm])) (hat : v.ownBlock = some g ∨ g = W.heap.size + 1)
    (h1 : at_ ≤ P) (h2 : P ≤ length) (h3 : 0 ≤ N) (h4 : N < length - P + 1) (hl : length ≤ 1152921504606846976) (h5 : ¬ (N = 0 ∧ m = 0)) (h6 : next - N + m ≤ 1152921504606846976) (hid : isKnown L idm ∧ (entAt L idm).even = true ∧ lnL L idm = m ∧ (m ≠ 0 → idm ≠ 0)) (hO : SOk L) (hm9 : m ≤ 9) :
    VIn L ids length (k + 1) ws w1 (.slice (some ⟨g, 0, none⟩) (xs.length + 1) cap) (P + N + 1) (next + ((m : Int) - N)) (xs ++ [⟨P, N, idm⟩]) := by
  obtain ⟨i1, i2, i3, i4⟩ := hid
  obtain ⟨a1, a2, a3⟩ := h.at_
  obtain ⟨n1, n2, n3⟩ := h.next
  have hsN := sumN_snoc xs ⟨P, N, idm⟩
  have hsT := sumT_snoc (lnL L) xs ⟨P, N, idm⟩
  simp only at hsN hsT
  have hF : formedFrom length (-1) (xs ++ [⟨P, N, idm⟩]) = true := by
    refine formed_snoc _ _ _ _ h.formed ?_
    unfold fitB
    refine decide_eq_true ⟨by dsimp only; omega, h3, by dsimp only; omega, by dsimp only; omega, ?_⟩
    rintro ⟨e1, e2⟩
    simp only at e1 e2
    by_cases hm : m = 0
    · exact h5 ⟨e1, hm⟩
    · exact i4 hm e2
  have hfm := formed_sum (by omega) _ hF
  have hnn : 0 ≤ sumT (lnL L) xs := sumT_nn (fun c hc => (hO.at _ (h.texts c hc).1).1.len0)
  refine ⟨Fr.grown (Fr.alloc h.frame o) hgrow (fun j hj hlt => by have := h.new j hj; omega), ?_, ?_, ?_, ?_, ?_, ?_, ?_, ?_⟩
  · have e : chgCells (xs ++ [⟨P, N, idm⟩]) = chgCells xs ++ [.int .i64 P, .int .i64 N, .int .i64 idm] := by simp [chgCells, Chg.vals]
    rw [e, List.length_append]
    exact hown1
  · intro j hj
    simp [Value.ownBlock] at hj
    subst hj
    have := h.frame.size'
    rcases hat with e | e
    · exact h.new _ e
    · omega
  · have := h.few; simp; omega
  · exact hF
  · rw [lastEnd_snoc]
    exact ⟨rfl, by omega, by omega⟩
  · rw [hsN, hsT, i3]
    exact ⟨by omega, by omega, by omega⟩
  · intro c hc
    rcases List.mem_append.1 hc with hc | hc
    · exact h.texts c hc
    · simp at hc; subst hc; exact ⟨i1, i2⟩
  · intro c hc
    rcases List.mem_append.1 hc with hc | hc
    · exact h.nine c hc
    · simp at hc; subst hc; dsimp only; omega

theorem owns_grown {w w1 : World} {row : Option Nat} {b : Nat} {e : TypeId} {sz n : Nat} {v : Value} {xs : List Value} (hg : w.grownBy w1 row) (ho : w.ownsRow b e sz v n xs) (hne : ∀ k, v.ownBlock = some k → row ≠ some k) : w1.ownsRow b e sz v n xs :=
  Fr.owns (S := fun k => row = some k) ((Fr.refl _ w).grown hg (fun k hk _ => hk)) ho hne

theorem Lists.push {w wc w1 w2 : World} {ov lv v : Value} {out : List (List Chg)} {ls : List Int} {xs : List Chg} {vs : List Value} {o1 o2 : Obj} {g1 c1 g2 c2 : Nat} {l' : Int} (h : Lists w wc ov lv out ls)
    (ho : wc.ownsRow 0 31 1 ov out.length vs) (hi : ∀ i (h : i < out.length), ∃ v, vs[i]? = some v ∧ wc.ownsRow 0 71 3 v out[i].length (chgCells out[i])) (hv : wc.ownsRow 0 71 3 v xs.length (chgCells xs))
    (hg1 : (wc.alloc o1).grownBy w1 ov.ownBlock) (hw1 : w1.ownsRow 0 31 1 (.slice (some ⟨g1, 0, none⟩) (out.length + 1) c1) (out.length + 1) (vs ++ [v])) (ha1 : ov.ownBlock = some g1 ∨ g1 = wc.heap.size + 1)
    (hg2 : (w1.alloc o2).grownBy w2 lv.ownBlock) (hw2 : w2.ownsRow 0 3 1 (.slice (some ⟨g2, 0, none⟩) (ls.length + 1) c2) (ls.length + 1) ((ls.map fun x => .int .i64 x) ++ [.int .i64 l'])) (ha2 : lv.ownBlock = some g2 ∨ g2 = w1.heap.size + 1) :
    Lists w w2 (.slice (some ⟨g1, 0, none⟩) (out.length + 1) c1) (.slice (some ⟨g2, 0, none⟩) (ls.length + 1) c2) (out ++ [xs]) (ls ++ [l']) := by
  obtain ⟨n1, n2⟩ := h.new
  have fa : Fr0 w w1 := Fr.grown (Fr.alloc h.frame o1) hg1 (fun j hj hlt => by have := n1 j hj; omega)
  have fb : Fr0 w w2 := Fr.grown (Fr.alloc fa o2) hg2 (fun j hj hlt => by have := n2 j hj; omega)
  have hl1 : w1.ownsRow 0 3 1 lv ls.length (ls.map fun x => .int .i64 x) := owns_grown hg1 (h.lens.alloc o1) (fun k hk => owns_apart h.lens ho (by decide) k hk)
  have key : ∀ (u : Value) (ys : List Chg), wc.ownsRow 0 71 3 u ys.length (chgCells ys) → w2.ownsRow 0 71 3 u ys.length (chgCells ys) := by
    intro u ys hu
    have k1 := owns_grown hg1 (hu.alloc o1) (fun k hk => owns_apart hu ho (by decide) k hk)
    exact owns_grown hg2 (k1.alloc o2) (fun k hk => owns_apart k1 hl1 (by decide) k hk)
  have hvl : vs.length = out.length := by have := ho.1; omega
  refine ⟨fb, ⟨vs ++ [v], ?_, ?_⟩, ?_, ?_, ?_⟩
  · rw [List.length_append]
    exact owns_grown hg2 (hw1.alloc o2) (fun k hk => owns_apart hw1 hl1 (by decide) k hk)
  · intro i hilt
    rcases Nat.lt_or_ge i out.length with e | e
    · obtain ⟨u, k1, k2⟩ := hi i e
      refine ⟨u, ?_, ?_⟩
      · rw [List.getElem?_append_left (by omega)]; exact k1
      · rw [List.getElem_append_left e]; exact key u _ k2
    · have : i = out.length := by simp at hilt; omega
      subst this
      refine ⟨v, ?_, ?_⟩
      · rw [← hvl]; simp
      · rw [List.getElem_append_right (Nat.le_refl _)]; simpa using key v xs hv
  · rw [List.length_append, List.map_append]
    exact hw2
  · intro k hk
    simp [Value.ownBlock] at hk
    subst hk
    have := h.frame.size'
    rcases ha1 with e | e
    · exact n1 _ e
    · omega
  · intro k hk
    simp [Value.ownBlock] at hk
    subst hk
    have := fa.size'
    rcases ha2 with e | e
    · exact n2 _ e
    · omega

theorem pick_nat (t : Int) : ∃ m : Nat, m ≤ 9 ∧ (wrap64 (t.tmod 10 + 10)).tmod 10 = (m : Int) := by
  have hb : -9 ≤ t.tmod 10 ∧ t.tmod 10 ≤ 9 := by
    rcases Int.le_total 0 t with h | h
    · rw [Int.tmod_eq_emod_of_nonneg h]; omega
    · obtain ⟨u, rfl⟩ : ∃ u, t = -u := ⟨-t, by omega⟩
      rw [Int.neg_tmod, Int.tmod_eq_emod_of_nonneg (by omega)]; omega
  rw [IntWalk.wrap64_in _ (by omega), Int.tmod_eq_emod_of_nonneg (by omega)]
  exact ⟨((t.tmod 10 + 10) % 10).toNat, by omega, by omega⟩

theorem rem_nn {a d : Int} (ha : 0 ≤ a) (hd : 0 < d) : a.tmod d = a % d := Int.tmod_eq_emod_of_nonneg ha

set_option maxRecDepth 100000 in
set_option maxHeartbeats 2000000 in
theorem law_valid9 {w0 w : World} {q p mb : Nat} {ids : List Int} {pw : Int} {L : List Ent} (hG : Begun w0 w q p mb ids pw L) (length : Int) (h0 : 0 ≤ length) (h1 : length ≤ 1152921504606846976) (a : Option Addr) (cap : Nat) (pss : List (List Chg)) (hp : PsAt w a pss) (ht : pss.length + tot pss ≤ 60) :
    Calls Try.prog 18 #[.pointer (some ⟨q, 0, none⟩), .int .i64 length, .slice a pss.length cap] w fun e w' => ∃ ov lv out ls, e = .returned (.tuple #[ov, lv]) ∧ Lists w w' ov lv out ls ∧ VOk L out ls ∧ out.length = pss.length ∧ tot out ≤ tot pss ∧ ls.head? = some length ∧ (∀ cs ∈ out, ∀ c ∈ cs, lnL L c.text ≤ 9) := by
  obtain ⟨i1, hi1, ha1, ha2, ha3⟩ := info_parts info_chg
  obtain ⟨i2, hi2, hb1, hb2, hb3⟩ := info_parts info_chgs
  obtain ⟨i3, hi3, hc1, hc2, hc3⟩ := info_parts info_int
  have hu1 : Try.prog.underlying 31 = some (.slice 71) := Try.underlying31
  have hu2 : Try.prog.underlying 29 = some (.slice 31) := Try.underlying29
  have hu3 : Try.prog.underlying 54 = some (.slice 3) := Try.underlying54
  have HG := Lib.hid hG
  have HP := Lib.hid hp
  clear hG hp
  go_enter Try.func18, Try.ntmps18
  go_wp2_with fail
  have H0 : Hid (Lists w (w.alloc (.cells #[.int .i64 length] 3 (0, 0))) (.slice none 0 0) (.slice (some ⟨w.heap.size, 0, none⟩) 1 1) [] [length]) := by
    refine ⟨(Fr0.refl w).alloc _, ⟨[], World.ownsRow_nil _ _ _ _, fun i hi => by simp at hi⟩, ⟨rfl, .inr ⟨w.heap.size, 1, _, rfl, Nat.zero_le _, alloc_at _ _ _ rfl, by simp, by unfold maxLen; omega, rfl, rfl⟩⟩, fun k hk => by simp [Value.ownBlock] at hk, fun k hk => by simp [Value.ownBlock] at hk; omega⟩
  go_loopg [1, 8, 9, 23] pss.length (fun gk l o ln i wr => ∃ (k : Nat) (out : List (List Chg)) (ls : List Int) (len : Int), k + gk = pss.length ∧ i = .int .i64 k ∧ l = .int .i64 len ∧ Lists w wr o ln out ls ∧ VOk L out ls ∧ out.length = k ∧ tot out ≤ tot (pss.take k) ∧ ls.head? = some length ∧ ls.getLast? = some len ∧ 0 ≤ len ∧ len ≤ 1152921504606846976 ∧ Hid (∀ cs ∈ out, ∀ c ∈ cs, lnL L c.text ≤ 9))
  case atStart => exact ⟨0, [], [length], length, by omega, rfl, rfl, H0.out, ⟨length, rfl, h0, h1⟩, rfl, Nat.zero_le _, rfl, rfl, h0, h1, fun cs hc => by simp at hc⟩
  case round =>
    clear H0
    obtain ⟨k, out, ls, len, hk, rfl, rfl, hL, hV, hok, hto, hhd, hla, hl0, hl1, HN9⟩ := hrel
    have HL := Lib.hid hL
    have HV := Lib.hid (And.intro hV (And.intro hok (And.intro hto (And.intro hhd hla))))
    have hfr := hL.frame
    clear hL hV hok hto hhd hla
    have hgk : gk + k = pss.length := by omega
    clear hk
    by_cases hlt : k < pss.length
    · obtain ⟨b, off, ai, ci, hab, lb, d0, hcs⟩ := (HP.out.kept0 hfr) k hlt
      subst hab
      have HCS := Lib.hid hcs
      have hcl : pss[k].length ≤ 60 := by have := tot_mem (List.getElem_mem hlt); omega
      have HT : Hid (tot (pss.take (k + 1)) = tot (pss.take k) + pss[k].length) := by show _ = _; rw [List.take_succ_eq_append_getElem hlt, tot_snoc]
      clear hcs
      generalize pss[k] = cs at *
      go_upto_block 2 with fail
      go_cut [12, 14] (fun v nx wx => ∃ (at_ next : Int) (xs : List Chg), nx = .int .i64 next ∧ VIn L ids len cs.length wr wx v at_ next xs)
      case first =>
        go_wp2_with fail
        obtain ⟨ws, rfl⟩ : ∃ ws : World, ws = wr := ⟨_, rfl⟩
        go_loopg [12, 13, 14, 30] cs.length (fun gk v t nx i wx => ∃ (k : Nat) (at_ next : Int) (xs : List Chg), k + gk = cs.length ∧ i = .int .i64 k ∧ t = .int .i64 at_ ∧ nx = .int .i64 next ∧ VIn L ids len k ws wx v at_ next xs)
        case atStart => exact ⟨0, 0, len, [], by omega, rfl, rfl, rfl, ⟨Fr0.refl _, World.ownsRow_nil _ _ _ _, fun j hj => by simp [Value.ownBlock] at hj, by simp, rfl, ⟨rfl, by omega, by omega⟩, ⟨by simp [sumN, sumT], hl0, hl1⟩, fun c hc => by simp at hc, fun c hc => by simp at hc⟩⟩
        case round =>
          obtain ⟨k2, at_, next, xs, hk2, rfl, rfl, rfl, hI⟩ := hrel
          obtain ⟨ha1', ha2', ha3'⟩ := hI.at_
          have HA := Lib.hid ha1'
          have hfI := hI.frame
          have HI := Lib.hid hI
          have hk2' : gk + k2 = cs.length := by omega
          clear hI ha1' hk2
          by_cases hlt2 : k2 < cs.length
          · obtain ⟨b2, off2, hab2, lb2, x0, x1, x2⟩ := (HCS.out.kept0 hfI) k2 hlt2
            subst hab2
            generalize cs[k2] = c at *
            by_cases hb : len < at_
            · go_wp2_with fail
              go_meet
              case rel => exact ⟨at_, next, xs, rfl, HI.out.mono ((Fr0.refl _).alloc _) (by omega)⟩
            · obtain ⟨tv, hq, hT, htv⟩ := (HG.out.kept0 (hfr.trans hfI)).wptr
              obtain ⟨y0, y1, y2, yf, yl⟩ := cells3 hq
              obtain ⟨tb, tcap, htv2, _, _⟩ := hT.form (by omega)
              subst htv2
              clear hq htv
              go_upto_region 13 with fail
              obtain ⟨m, hm9, hm⟩ := pick_nat c.text
              rw [hm]
              clear hm
              have z0 : wr.cell? ⟨tb, m, none⟩ = some (.int .i64 (ids.getD m 0)) := owns_cell hT m _ (by rw [List.getElem?_map, List.getElem?_eq_getElem (by rw [HG.out.len]; omega)]; simp [List.getElem?_eq_getElem (show m < ids.length by rw [HG.out.len]; omega)])
              clear hT
              have e1 := and62 c.at_
              have hA0 : 0 ≤ c.at_ % 4611686018427387904 := by omega
              generalize c.at_ % 4611686018427387904 = A at *
              have hR := rem_nn hA0 (show 0 < len - at_ + 1 by omega)
              have hR1 : 0 ≤ A % (len - at_ + 1) := Int.emod_nonneg _ (by omega)
              have hR2 : A % (len - at_ + 1) < len - at_ + 1 := Int.emod_lt_of_pos _ (by omega)
              generalize A % (len - at_ + 1) = R at *
              have e2 := IntWalk.i64_in (len - at_) (by omega)
              have e3 := IntWalk.i64_in (len - at_ + 1) (by omega)
              obtain ⟨P, hPe⟩ : ∃ P, P = at_ + R := ⟨_, rfl⟩
              have e5 : IntKind.i64.wrap (at_ + R) = P := by rw [hPe]; exact IntWalk.i64_in (at_ + R) (by omega)
              have hP1 : at_ ≤ P := by omega
              have hP2 : P ≤ len := by omega
              clear hPe
              have e6 : ¬ (len - at_ + 1 = 0) := by omega
              have e7 : ((m : Nat) : Int).toNat = m := by omega
              have e8 : (0 : Int) ≤ (m : Int) := by omega
              have e9 : (m : Int) < 10 := by omega
              have HID : Hid (isKnown L (ids.getD m 0) ∧ (entAt L (ids.getD m 0)).even = true ∧ lnL L (ids.getD m 0) = m ∧ (m ≠ 0 → ids.getD m 0 ≠ 0)) := ids_facts HG.out.ids HG.out.len hm9
              have lT := World.block_lt_of_cell? wr _ z0
              obtain ⟨W1, hW1⟩ : ∃ W1, wr.alloc (.cells #[.int .i64 c.at_, .int .i64 c.n, .int .i64 c.text] 92 (0, 0)) = W1 := ⟨_, rfl⟩
              have f0 : Fr0 wr W1 := by rw [← hW1]; exact (Fr0.refl _).alloc _
              have hcb : W1.heap[wr.heap.size]? = some (.cells #[.int .i64 c.at_, .int .i64 c.n, .int .i64 c.text] 92 (0, 0)) := by rw [← hW1]; exact alloc_at _ _ _ rfl
              have hsz1 : W1.heap.size = wr.heap.size + 1 := by rw [← hW1]; simp
              rw [hW1]
              clear hW1
              obtain ⟨p0, p1, p2, pf, pl⟩ := cells3 hcb
              have y1' := (f0.cell q 1 yl).trans y1
              have z0' := (f0.cell tb m lT).trans z0
              have yl' : q < W1.heap.size := by omega
              have lT' : tb < W1.heap.size := by omega
              have HCB := Lib.hid hcb
              have HF0 := Lib.hid f0
              have HSZ := Lib.hid hsz1
              clear hcb f0 hsz1 y0 y1 y2 yf yl z0 lT x0 x1 x2 d0
              generalize hsw : wr.heap.size = sw at *
              clear hsw
              generalize ids.getD m 0 = idm at *
              go_region
              clear e1 e2 e3 e5 e6 e7 e8 e9 hR hR1 hR2 hA0 y1' z0'
              have e1 := and62 c.n
              have hA0 : 0 ≤ c.n % 4611686018427387904 := by omega
              generalize c.n % 4611686018427387904 = B at *
              have hR := rem_nn hA0 (show 0 < len - P + 1 by omega)
              have hR1 : 0 ≤ B % (len - P + 1) := Int.emod_nonneg _ (by omega)
              have hR2 : B % (len - P + 1) < len - P + 1 := Int.emod_lt_of_pos _ (by omega)
              generalize B % (len - P + 1) = N at *
              have e6 : ¬ (len - P + 1 = 0) := by omega
              have nsw : ¬ sw = W1.heap.size := by omega
              go_upto_region 15 with fail
              obtain ⟨W2, hW2⟩ : ∃ W2, (W1.alloc (.cells #[.int .i64 P, .int .i64 N, .int .i64 idm] 71 (0, 0))).drew = W2 := ⟨_, rfl⟩
              have f2 : Fr0 wr W2 := by rw [← hW2]; exact (HF0.out.alloc _).drew
              have hxb : W2.heap[W1.heap.size]? = some (.cells #[.int .i64 P, .int .i64 N, .int .i64 idm] 71 (0, 0)) := by rw [← hW2]; exact alloc_at W1 _ _ rfl
              rw [hW2]
              have hsz2 : wr.heap.size ≤ W1.heap.size := HF0.out.size'
              clear hW2 e1 hR e6 p0 p1 p2 pf pl nsw
              obtain ⟨r0, r1, r2, rf, rl⟩ := cells3 hxb
              have hI2 := HI.out.mono f2 (Nat.le_refl _)
              have hv1 : u12.ownBlock ≠ some W1.heap.size := by
                intro e
                obtain ⟨cur, hcur⟩ := owns_block HI.out.own e
                have := lt_of_block hcur
                omega
              obtain ⟨n1', n2', n3'⟩ := hI2.next
              clear n1'
              have hxsl := hI2.few
              have HI2 := Lib.hid hI2
              clear hI2 hxb
              generalize W1.heap.size = sx at *
              by_cases hz : N = 0 ∧ m = 0
              · obtain ⟨rfl, rfl⟩ := hz
                go_wp2_with fail
                go_roundg (gk - 1)
                case measure => omega
                case rel => exact ⟨k2 + 1, at_, next, xs, by omega, by go_num, rfl, rfl, HI2.out.mono (Fr0.refl _) (by omega)⟩
              · by_cases hbig : 1152921504606846976 < next - N + m
                · by_cases hN0 : N = 0
                  · have hm0 : ((m : Int) == 0) = false := by simp; exact fun h => hz ⟨hN0, h⟩
                    subst hN0
                    clear hz
                    go_wp2_with fail
                    go_roundg (gk - 1)
                    case measure => omega
                    case rel => exact ⟨k2 + 1, at_, next, xs, by omega, by go_num, rfl, rfl, HI2.out.mono (Fr0.refl _) (by omega)⟩
                  · have hN1 : (N == 0) = false := by simpa using hN0
                    clear hz hN0
                    go_wp2_with fail
                    go_roundg (gk - 1)
                    case measure => omega
                    case rel => exact ⟨k2 + 1, at_, next, xs, by omega, by go_num, rfl, rfl, HI2.out.mono (Fr0.refl _) (by omega)⟩
                · have hown := HI2.out.own
                  have hn63 : xs.length + 1 ≤ maxLen := by unfold maxLen; omega
                  have hby : (xs.length + 1) * 24 ≤ 140737488355328 := by omega
                  have HZ := Lib.hid hz
                  have hfin : ∀ (g cap : Nat) (w1 : World) (o : Obj), w1.ownsRow 0 71 3 (.slice (some ⟨g, 0, none⟩) (xs.length + 1) cap) (xs.length + 1) (chgCells xs ++ [.int .i64 P, .int .i64 N, .int .i64 idm]) → (W2.alloc o).grownBy w1 u12.ownBlock → (u12.ownBlock = some g ∨ g = W2.heap.size + 1) → VIn L ids len (k2 + 1) ws w1 (.slice (some ⟨g, 0, none⟩) (xs.length + 1) cap) (P + N + 1) (next + ((m : Int) - N)) (xs ++ [⟨P, N, idm⟩]) :=
                    fun g cap w1 o h1' h2' h3' => HI2.out.push h2' h1' h3' hP1 hP2 hR1 hR2 hl1 HZ.out (by omega) HID.out HG.out.sok hm9
                  have HFIN := Lib.hid hfin
                  clear hfin hz
                  by_cases hN0 : N = 0
                  · have hm0 : ((m : Int) == 0) = false := by simp; exact fun h => HZ.out ⟨hN0, h⟩
                    subst hN0
                    go_wp2_with (at_builtin; refine wpList_append_lies _ rfl _ _ _ rfl 0 71 i1 _ 3 24 hu1 hi1 ha1 ha2 ha3 rfl (by omega) u12 xs.length (chgCells xs) rfl (hown.alloc _) ⟨W2.heap.size, 0, none⟩ 1 1 [.int .i64 P, .int .i64 0, .int .i64 idm] rfl rfl (World.news_of_block (cs := #[.int .i64 P, .int .i64 0, .int .i64 idm]) (t := 71) (fr := (0, 0)) (heap_alloc_new W2 _)) (by simp [Value.oneCell']) (by omega) hn63 hby (by omega) (W2.heap.size + 1) (by simp) ?_; intro g cap' w1 hown1 hgrow hat hlt2; have q0 : w1.cell? ⟨sx, 0, none⟩ = some (.int .i64 P) := (hgrow.cell_far _ (by simp; omega) (Ne.symm hv1)).trans ((cellA W2 _ sx 0 rl).trans r0); have q1 : w1.cell? ⟨sx, 1, none⟩ = some (.int .i64 0) := (hgrow.cell_far _ (by simp; omega) (Ne.symm hv1)).trans ((cellA W2 _ sx 1 rl).trans r1))
                    go_roundg (gk - 1)
                    case measure => omega
                    case rel => exact ⟨k2 + 1, _, _, _, by omega, by go_num, rfl, rfl, by have h := HFIN.out g cap' w1 _ hown1 hgrow hat; rw [Int.add_zero, Int.sub_zero] at h; exact h⟩
                  · have hN1 : (N == 0) = false := by simpa using hN0
                    clear hN0
                    go_wp2_with (at_builtin; refine wpList_append_lies _ rfl _ _ _ rfl 0 71 i1 _ 3 24 hu1 hi1 ha1 ha2 ha3 rfl (by omega) u12 xs.length (chgCells xs) rfl (hown.alloc _) ⟨W2.heap.size, 0, none⟩ 1 1 [.int .i64 P, .int .i64 N, .int .i64 idm] rfl rfl (World.news_of_block (cs := #[.int .i64 P, .int .i64 N, .int .i64 idm]) (t := 71) (fr := (0, 0)) (heap_alloc_new W2 _)) (by simp [Value.oneCell']) (by omega) hn63 hby (by omega) (W2.heap.size + 1) (by simp) ?_; intro g cap' w1 hown1 hgrow hat hlt2; have q0 : w1.cell? ⟨sx, 0, none⟩ = some (.int .i64 P) := (hgrow.cell_far _ (by simp; omega) (Ne.symm hv1)).trans ((cellA W2 _ sx 0 rl).trans r0); have q1 : w1.cell? ⟨sx, 1, none⟩ = some (.int .i64 N) := (hgrow.cell_far _ (by simp; omega) (Ne.symm hv1)).trans ((cellA W2 _ sx 1 rl).trans r1))
                    go_roundg (gk - 1)
                    case measure => omega
                    case rel => exact ⟨k2 + 1, _, _, _, by omega, by go_num, rfl, rfl, HFIN.out g cap' w1 _ hown1 hgrow hat⟩
          · go_wp2_with fail
            go_meet
            case rel => exact ⟨at_, next, xs, rfl, HI.out.mono (Fr0.refl _) (by omega)⟩
      case rest =>
        obtain ⟨at_, next, xs, rfl, hI⟩ := hcut
        obtain ⟨va, vcap, hv⟩ := owns_form hI.own
        obtain ⟨hn1, hn2, hn3⟩ := hI.next
        have hL := HL.out.kept0 hI.frame
        obtain ⟨vs, hvs, hin⟩ := hL.own
        obtain ⟨g1, g2, g3, g4, g5⟩ := HV.out
        have herr : patchErr L len xs = 0 := patchErr_of (fun c hc => hI.texts c hc) hI.formed
        have HN92 : Hid (∀ cs ∈ out ++ [xs], ∀ c ∈ cs, lnL L c.text ≤ 9) := by
          intro cs' hcs'
          rcases List.mem_append.1 hcs' with hx | hx
          · exact HN9.out cs' hx
          · simp at hx; subst hx; exact hI.nine
        have HV2 : Hid (VOk L (out ++ [xs]) (ls ++ [next]) ∧ (out ++ [xs]).length = k + 1 ∧ tot (out ++ [xs]) ≤ tot (pss.take (k + 1)) ∧ (ls ++ [next]).head? = some length ∧ (ls ++ [next]).getLast? = some next) := by
          refine ⟨VOk.snoc xs len next out ls g1 g5 herr hn1 hn2 hn3, by simp [g2], ?_, ?_, by simp⟩
          · rw [tot_snoc, HT.out]; have := hI.few; omega
          · cases ls with
            | nil => simp at g4
            | cons y m => simpa using g4
        have hll := VOk.len out ls g1
        have HPU := Lib.hid (fun (w1 w2 : World) (o1 o2 : Obj) (g1 c1 g2 c2 : Nat) hg1 hw1 ha1 hg2 hw2 ha2 => hL.push (w1 := w1) (w2 := w2) (o1 := o1) (o2 := o2) (g1 := g1) (c1 := c1) (g2 := g2) (c2 := c2) (l' := next) (xs := xs) hvs hin hI.own hg1 hw1 ha1 hg2 hw2 ha2)
        have hlens := hL.lens
        have HAP := Lib.hid (fun k hk => owns_apart hlens hvs (by decide) k hk)
        subst hv
        clear g1 g2 g3 g4 g5 herr hn1 hI hL hin
        have hn63 : out.length + 1 ≤ maxLen := by unfold maxLen; have := HV.out.2.1; omega
        have hby : (out.length + 1) * 24 ≤ 140737488355328 := by have := HV.out.2.1; omega
        have hm63 : ls.length + 1 ≤ maxLen := by unfold maxLen; have := HV.out.2.1; omega
        have hmy : (ls.length + 1) * 8 ≤ 140737488355328 := by have := HV.out.2.1; omega
        clear hll
        go_upto_region 21 with (at_builtin; refine wpList_append_lies _ rfl _ _ _ rfl 0 31 i2 _ 1 24 hu2 hi2 hb1 hb2 hb3 rfl (by omega) u8 out.length vs rfl (hvs.alloc _) ⟨wc.heap.size, 0, none⟩ 1 1 [.slice va xs.length vcap] rfl rfl (World.news_of_block (cs := #[.slice va xs.length vcap]) (t := 31) (fr := (0, 0)) (heap_alloc_new wc _)) (by simp [Value.oneCell']) (by omega) hn63 hby (by omega) (wc.heap.size + 1) (by simp) ?_; intro g cap' w1 hown1 hgrow hat hlt2)
        have hlens1 := owns_grown hgrow (hlens.alloc _) HAP.out
        go_wp2_with (at_builtin; refine wpList_append_lies _ rfl _ _ _ rfl 0 3 i3 _ 1 8 hu3 hi3 hc1 hc2 hc3 rfl (by omega) u9 ls.length (ls.map fun x => .int .i64 x) rfl (hlens1.alloc _) ⟨w1.heap.size, 0, none⟩ 1 1 [.int .i64 next] rfl rfl (World.news_of_block (cs := #[.int .i64 next]) (t := 3) (fr := (0, 0)) (heap_alloc_new w1 _)) (by simp [Value.oneCell']) (by omega) hm63 hmy (by omega) (w1.heap.size + 1) (by simp) ?_; intro h cap2 w2 hown2 hgrow2 hat2 hlt3)
        go_roundg (gk - 1)
        case measure => omega
        case rel => exact ⟨k + 1, out ++ [xs], ls ++ [next], next, by omega, by go_num, rfl, HPU.out w1 w2 _ _ g cap' h cap2 hgrow hown1 hat hgrow2 hown2 hat2, HV2.out.1, HV2.out.2.1, HV2.out.2.2.1, HV2.out.2.2.2.1, HV2.out.2.2.2.2, hn2, hn3, HN92⟩
    · obtain ⟨g1, g2, g3, g4, g5⟩ := HV.out
      have X : Hid (tot out ≤ tot pss ∧ out.length = pss.length) := ⟨Nat.le_trans g3 (tot_take_le _ _), by omega⟩
      clear g1 g2 g3 g4 g5
      go_wp2_with fail
      go_ret2
      exact ⟨_, _, out, ls, rfl, HL.out, HV.out.1, X.out.2, X.out.1, HV.out.2.2.2.1, HN9.out⟩

theorem law_valid {w0 w : World} {q p mb : Nat} {ids : List Int} {pw : Int} {L : List Ent} (hG : Begun w0 w q p mb ids pw L) (length : Int) (h0 : 0 ≤ length) (h1 : length ≤ 1152921504606846976) (a : Option Addr) (cap : Nat) (pss : List (List Chg)) (hp : PsAt w a pss) (ht : pss.length + tot pss ≤ 60) :
    Calls Try.prog 18 #[.pointer (some ⟨q, 0, none⟩), .int .i64 length, .slice a pss.length cap] w fun e w' => ∃ ov lv out ls, e = .returned (.tuple #[ov, lv]) ∧ Lists w w' ov lv out ls ∧ VOk L out ls ∧ out.length = pss.length ∧ tot out ≤ tot pss ∧ ls.head? = some length :=
  (law_valid9 hG length h0 h1 a cap pss hp ht).mono fun _ _ ⟨ov, lv, out, ls, a1, a2, a3, a4, a5, a6, _⟩ => ⟨ov, lv, out, ls, a1, a2, a3, a4, a5, a6⟩

end Go.Proofs.Ytbokcmkbnkncoaa

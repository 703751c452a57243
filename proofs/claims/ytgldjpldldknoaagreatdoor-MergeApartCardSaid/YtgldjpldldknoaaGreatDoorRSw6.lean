/- Pair levels in place (plain). -/
import Derived.Test.YtgldjpldldknoaaGreatDoorRSw5
set_option linter.unusedSimpArgs false
set_option linter.unusedVariables false
namespace Go.Proofs.YtgldjpldldknoaaGreatDoor
open Go.RowKit
theorem InP.many {L Lm : List Ent} {ids out xs ys : List Int} {m at_ : Nat} (h : InP L Lm ids out xs ys m at_) (r : Nat) (hr : at_ + r ≤ ids.length) :
    InP L Lm ids (out ++ (ids.drop at_).take r) (putR xs m ((ids.drop at_).take r)) (putR ys m (((ids.drop at_).take r).map (kkey Lm))) (m + r) (at_ + r) := by
 have h1 := h.ml
 have h2 := h.lx
 have h3 := h.ly
 have hn : ((ids.drop at_).take r).length = r := by rw [List.length_take, List.length_drop]; omega
 have hpl : ∀ (zs news : List Int), news.length = r → zs.length = ids.length → (putR zs m news).length = ids.length := fun zs news a b => by
  unfold putR
  simp only [List.length_append, List.length_take, List.length_drop]
  omega
 have hnk : (((ids.drop at_).take r).map (kkey Lm)).length = r := by rw [List.length_map, hn]
 refine ⟨by omega, ?_, ?_, ?_, ?_, hpl _ _ hn h2, hpl _ _ hnk h3, hr, by rw [List.length_append, hn, h.lo]⟩
 · have := putR_take xs ((ids.drop at_).take r) (j := m) (by omega)
   rw [hn, h.fo] at this
   exact this
 · have := putR_take ys (((ids.drop at_).take r).map (kkey Lm)) (j := m) (by omega)
   rw [hnk, h.fk] at this
   rw [List.map_append]
   exact this
 · rw [putR_drop xs _ (by omega) (by rw [hn]; omega)]
   have := congrArg (List.drop r) h.rest
   rw [List.drop_drop, List.drop_drop] at this
   exact this
 · rw [putR_drop ys _ (by omega) (by rw [hnk]; omega)]
   have := congrArg (List.drop r) h.restk
   rw [List.drop_drop, List.drop_drop] at this
   exact this
theorem src_in {T : TypeId} {k : IntKind} {base : Nat} {w : World} {g j cap a r : Nat} {xs zs : List Int} (h : PreR T k base w (.slice (some ⟨g, 0, none⟩) j cap) j xs) (hd : xs.drop a = zs.drop a) :
    ∀ i u, (((zs.drop a).take r).map fun x => Value.int k x)[i]? = some u → w.cell? ((⟨g, a, none⟩ : Addr).add i) = some u := by
 intro i u hu
 rw [← hd] at hu
 simp only [List.getElem?_map, List.getElem?_take] at hu
 split at hu
 · rw [List.getElem?_drop] at hu
   cases hx : xs[a + i]? with
   | none => rw [hx] at hu; cases hu
   | some x =>
    rw [hx] at hu
    obtain ⟨hlt, rfl⟩ := List.getElem?_eq_some_iff.1 hx
    have := (h.cell (a + i) hlt).1
    simp only [Option.map_some, Option.some.injEq] at hu
    rw [Addr.add_lit, this, hu]
 · cases hu
theorem map_more {L : List Ent} (hD : DOk L) {M : List Ent} (hD' : DOk (L ++ M)) (ids : List Int) (h : ∀ u ∈ ids, isKnown L u ∧ u ≠ 0) (a r : Nat) : ((ids.map (kkey L)).drop a).take r = ((ids.drop a).take r).map (kkey (L ++ M)) := by
 rw [← List.map_drop, ← List.map_take]
 exact (kl_seq hD hD' _ (fun u hu => h u (List.mem_of_mem_drop (List.mem_of_mem_take hu)))).symm
structure PrI (c : Nat) (L Lt : List Ent) (ids out : List Int) (at_ : Nat) (is : List Nat) : Prop where
 gu : Gu L Lt at_
 kn : ∀ u ∈ out, isKnown Lt u ∧ u ≠ 0
 gd : grd c at_ ((ids.drop at_).map (kkey Lt)) = is
 fin : prL c L ids = ((prL c Lt (ids.drop at_)).1, out ++ (prL c Lt (ids.drop at_)).2)
 al : at_ ≤ ids.length
theorem PrI.start {L : List Ent} (hS : SOk L) (hD : DOk L) (hU : Uq L) (c : Nat) (ids : List Int) : PrI c L L ids [] 0 (grd c 0 (ids.map (kkey L))) :=
 ⟨Gu.refl hS hD hU, fun u hu => by simp at hu, rfl, rfl, Nat.zero_le _⟩
theorem PrI.next {c : Nat} {L Lt : List Ent} {ids out : List Int} {at_ i : Nat} {is : List Nat} (h : PrI c L Lt ids out at_ (i :: is)) (hD : DOk L) (hkn : ∀ u ∈ ids, isKnown L u ∧ u ≠ 0) (ht : (txts L ids).length ≤ 1152921504606846976) :
    ∃ (hi : i + 1 < ids.length), at_ ≤ i ∧ isKnown Lt ids[i] ∧ isKnown Lt ids[i + 1] ∧ ids[i] ≠ 0 ∧ ids[i + 1] ≠ 0 ∧ (txt Lt ids[i]).length + (txt Lt ids[i + 1]).length ≤ 1152921504606846976 ∧
     PrI c L (addL Lt (pairEnt Lt ids[i] ids[i + 1])) ids (out ++ (ids.drop at_).take (i - at_) ++ [addI Lt (pairEnt Lt ids[i] ids[i + 1])]) (i + 2) is := by
 obtain ⟨N, hN⟩ := h.gu.gr.ext
 obtain ⟨pre, x, y, t, e1, e2, e3, e4⟩ := prL_jump _ (ids.drop at_) at_ i is (Nat.le_refl _) h.gd
 have hl := congrArg List.length e1
 simp only [List.length_append, List.length_drop, List.length_cons] at hl
 have hal := h.al
 have hi : i + 1 < ids.length := by omega
 have gx : ids[i] = x := by
  have := congrArg (fun l => l[pre.length]?) e1
  simp only [List.getElem?_drop, List.getElem?_append_right (Nat.le_refl _), Nat.sub_self, List.getElem?_cons_zero] at this
  rw [← e2, List.getElem?_eq_getElem (by omega)] at this
  exact Option.some.inj this
 have gy : ids[i + 1] = y := by
  have := congrArg (fun l => l[pre.length + 1]?) e1
  simp only [List.getElem?_drop] at this
  rw [List.getElem?_append_right (by omega), show pre.length + 1 - pre.length = 1 by omega, show at_ + (pre.length + 1) = i + 1 by omega, List.getElem?_eq_getElem hi] at this
  exact Option.some.inj this
 have hpre : (ids.drop at_).take (i - at_) = pre := by rw [e1, e2, Nat.add_sub_cancel_left]; exact List.take_left
 have htl : ids.drop (i + 2) = t := by
  have := congrArg (List.drop (pre.length + 2)) e1
  rw [List.drop_drop, show at_ + (pre.length + 2) = i + 2 by omega] at this
  rw [this, List.drop_append, List.drop_eq_nil_of_le (by omega), List.nil_append, show pre.length + 2 - pre.length = 2 by omega]
  rfl
 have kx := hkn ids[i] (List.getElem_mem _)
 have ky := hkn ids[i + 1] (List.getElem_mem _)
 have kx' : isKnown Lt ids[i] := by rw [hN]; exact known_more kx.1 N
 have ky' : isKnown Lt ids[i + 1] := by rw [hN]; exact known_more ky.1 N
 have htx : (txt Lt ids[i]).length + (txt Lt ids[i + 1]).length ≤ 1152921504606846976 := by
  rw [hN, txt_append hD N kx.1, txt_append hD N ky.1]
  have e : ids = ids.take at_ ++ (pre ++ x :: y :: t) := by rw [← e1, List.take_append_drop]
  have e5 : (txts L ids).length = (txts L (ids.take at_)).length + ((txts L pre).length + ((txt L x).length + ((txt L y).length + (txts L t).length))) := by
   conv => lhs; rw [e]
   rw [txts_append, txts_append, txts_cons, txts_cons]
   simp only [List.length_append]
  rw [gx, gy]
  omega
 obtain ⟨g1, g2, g3, g4, _, _⟩ := pair_new h.gu.gr.sok h.gu.gr.dok h.gu.uq kx' ky' kx.2 ky.2 htx
 obtain ⟨M, hM⟩ := g1.gr.ext
 refine ⟨hi, by omega, kx', ky', kx.2, ky.2, htx, ?_⟩
 rw [gx, gy] at *
 refine ⟨h.gu.trans g1 (by omega), ?_, ?_, ?_, by omega⟩
 · intro u hu
   rw [hpre] at hu
   rcases List.mem_append.1 hu with hu | hu
   · rcases List.mem_append.1 hu with hu | hu
     · rw [hM]; exact ⟨known_more (h.kn u hu).1 M, (h.kn u hu).2⟩
     · have hm : u ∈ ids := List.mem_of_mem_drop (by rw [e1]; exact List.mem_append_left _ hu)
       rw [hM, hN]
       exact ⟨known_more (known_more (hkn u hm).1 N) M, (hkn u hm).2⟩
   · simp at hu; subst hu; exact ⟨g2, g3⟩
 · rw [htl, e3]
   congr 1
   have hd := g1.gr.dok
   rw [hM] at hd ⊢
   exact kl_seq h.gu.gr.dok hd t (fun u hu => by
    have hm : u ∈ ids := List.mem_of_mem_drop (by rw [e1]; exact List.mem_append_right _ (by simp [hu]))
    rw [hN]
    exact ⟨known_more (hkn u hm).1 N, (hkn u hm).2⟩)
 · rw [h.fin, e4, htl, hpre]
   simp
theorem PrI.done {c : Nat} {L Lt : List Ent} {ids out : List Int} {at_ : Nat} (h : PrI c L Lt ids out at_ []) : prL c L ids = (Lt, out ++ (ids.drop at_).take (ids.length - at_)) := by
 rw [h.fin, prL_end _ (ids.drop at_) at_ (Nat.le_refl _) h.gd, List.take_of_length_le (by rw [List.length_drop]; exact Nat.le_refl _)]
theorem step_append_pre {ST T : TypeId} (hT : RT ST T 1 8) {w : World} {ops : Array Oper} {o : Oper} {a : Act} {K : Act → World → Prop} {Q : Exit → Act → World → Prop} {E : Prop} (hgd : o.guard = none) (s x : Operand)
    (ho : o.op = .call { callee := .builtin .append, args := #[s, x], argTypes := #[ST, ST] })
    (k : IntKind) (base : Nat) (v : Value) (j : Nat) (xs : List Int) (hs : a.eval s = v) (hp : PreR T k base w v j xs) (ad : Addr) (c : Nat) (news : List Int) (n : Nat) (hn : news.length = n) (hx : a.eval x = .slice (some ad) n c)
    (hsrc : ∀ i u, (news.map fun x => Value.int k x)[i]? = some u → w.cell? (ad.add i) = some u) (hfit : j + n ≤ xs.length ∨ j = xs.length) (hl : xs.length + n ≤ 2000000) (hB : base ≤ w.heap.size)
    (hK : ∀ v' w', PreR T k base w' v' (j + n) (putR xs j news) → w.grownBy w' v.ownBlock → (v'.ownBlock = v.ownBlock ∨ (j = xs.length ∧ v'.ownBlock = some w.heap.size)) → K (a.put o.dst v') w') :
    if Region.wanted o (yielded ops a.tmps) = true then Oper.wp Tryz.prog o a w K Q else E := by
 subst hn
 have hw : Region.wanted o (yielded ops a.tmps) = true := by simp [Region.wanted, hgd]
 rw [if_pos hw]
 obtain ⟨v', w', hr, h2, h3, h4⟩ := run_append_pre hT w o.type k base v j xs hp ad c news hsrc hfit hl hB
 unfold Oper.wp execOp
 simp only [ho, resolve, invoke, builtin, Sem.run_bind, Sem.run_pure, Result.andThen_ok, List.map_toArray, List.map_cons, List.map_nil, hs, hx, hr]
 exact hK _ _ h2 h3 h4
end Go.Proofs.YtgldjpldldknoaaGreatDoor

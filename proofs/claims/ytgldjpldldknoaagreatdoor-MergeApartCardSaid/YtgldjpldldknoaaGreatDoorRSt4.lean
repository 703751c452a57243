/- The walk of add. -/
import Derived.Test.YtgldjpldldknoaaGreatDoorRSt
import Derived.Deep.RegionLaw
import Derived.BigRegion
set_option linter.unusedSimpArgs false
set_option linter.unusedVariables false
namespace Go.Proofs.YtgldjpldldknoaaGreatDoor
open Go.RowKit
theorem info_entry : (Tryz.prog.info? 84).map (fun i => (i.zero, i.size, i.bytes)) = some (some (.agg #[.int .i64 0, .int .u8 0, .int .i64 0, .int .i64 0, .int .i64 0, .int .i64 0, .int .i64 0, .int .i64 0, .int .i64 0, .int .u64 0, .int .u64 0, .int .i64 0, .bool false]), 13, 104) := by kernel_rfl
theorem owns_set_other {w : World} {base : Nat} {e : TypeId} {size n : Nat} {v : Value} {xs : List Value} (h : w.ownsRow base e size v n xs) (p : Addr) (u : Value) (hne : v.ownBlock ≠ some p.block) : (w.setCell p u).ownsRow base e size v n xs := by
 refine ⟨h.1, ?_⟩
 rcases h.2 with h1 | ⟨g, cap, cur, rfl, hb, hg, r⟩
 · exact .inl h1
 · refine .inr ⟨g, cap, cur, rfl, hb, ?_, r⟩
   rw [setCell_other _ _ (fun e => hne (by simp [Value.ownBlock, e]))]
   exact hg
def setB (w : World) (b : Nat) (o : Obj) : World := { w with heap := w.heap.setIfInBounds b o }
theorem setB_same {w : World} {b : Nat} {o : Obj} (h : b < w.heap.size) : (setB w b o).heap[b]? = some o := by simp [setB, h]
theorem setB_other {w : World} {b c : Nat} {o : Obj} (h : c ≠ b) : (setB w b o).heap[c]? = w.heap[c]? := by simp [setB, Array.getElem?_setIfInBounds, Ne.symm h]
theorem setB_size {w : World} {b : Nat} {o : Obj} : (setB w b o).heap.size = w.heap.size := by simp [setB]
theorem Fr.setB {S : Nat → Prop} {a w : World} (h : Fr S a w) (b : Nat) (o : Obj) (hb : b < a.heap.size → S b) : Fr S a (setB w b o) :=
 ⟨h.os, h.tape, h.output, by rw [setB_size]; exact h.size, fun i hi hn => by
  by_cases e : i = b
  · subst e; exact absurd (hb hi) hn
  · rw [setB_other e]; exact h.block i hi hn⟩
theorem owns_setB {w : World} {base : Nat} {e : TypeId} {size n : Nat} {v : Value} {xs : List Value} (h : w.ownsRow base e size v n xs) (b : Nat) (o : Obj) (hne : v.ownBlock ≠ some b) : (setB w b o).ownsRow base e size v n xs := by
 refine ⟨h.1, ?_⟩
 rcases h.2 with h1 | ⟨g, cap, cur, rfl, hb, hg, r⟩
 · exact .inl h1
 · exact .inr ⟨g, cap, cur, rfl, hb, (setB_other (fun e => hne (by simp [Value.ownBlock, e]))).trans hg, r⟩
theorem add_meet {W w1 : World} {o : Obj} {sv : Value} {g cap n p mb : Nat} {most : Int} {xs : List Value}
    (hptr : W.heap[p]? = some (.cells #[.int .i64 most, sv, .map (some mb)] 100 (0, 0)))
    (hown1 : w1.ownsRow 0 84 13 (.slice (some ⟨g, 0, none⟩) (n + 1) cap) (n + 1) xs)
    (hgrow : World.grownBy (W.alloc o).drew w1 sv.ownBlock) (hat : sv.ownBlock = some g ∨ g = W.heap.size + 1) (hag : sv.ownBlock ≠ some p) :
    (w1.setCell ⟨p, 1, none⟩ (.slice (some ⟨g, 0, none⟩) (n + 1) cap)).heap[p]? = some (.cells #[.int .i64 most, .slice (some ⟨g, 0, none⟩) (n + 1) cap, .map (some mb)] 100 (0, 0)) ∧
     (w1.setCell ⟨p, 1, none⟩ (.slice (some ⟨g, 0, none⟩) (n + 1) cap)).ownsRow 0 84 13 (.slice (some ⟨g, 0, none⟩) (n + 1) cap) (n + 1) xs ∧
     Fr (fun k => k = p ∨ sv.ownBlock = some k) W (w1.setCell ⟨p, 1, none⟩ (.slice (some ⟨g, 0, none⟩) (n + 1) cap)) ∧ (sv.ownBlock = some g ∨ W.heap.size ≤ g) := by
 have lp := lt_of_block hptr
 have h1 : w1.heap[p]? = some (.cells #[.int .i64 most, sv, .map (some mb)] 100 (0, 0)) :=
  (hgrow.block p (by simp; omega) (fun e => hag e.symm)).trans ((alloc_lt W o p lp).trans hptr)
 have hg : g ≠ p := by
  rintro rfl
  rcases hown1.2 with ⟨h2, _⟩ | ⟨g', cap', cur, h2, _, hg, _⟩
  · cases h2
  · simp at h2
    rw [← h2.1, h1] at hg
    simp at hg
 refine ⟨setCell_block h1 1 _, owns_set_other hown1 _ _ (by simpa [Value.ownBlock] using hg), ?_, ?_⟩
 · exact ((((Fr.refl _ W).alloc o).drew).grown hgrow (fun k hk _ => .inr hk)).setCell _ _ (fun _ => .inl rfl)
 · rcases hat with h | h
   · exact .inl h
   · exact .inr (by omega)
set_option maxRecDepth 100000 in
set_option maxHeartbeats 2000000 in
theorem st_add {w : World} {p mb : Nat} {most : Int} {sv : Value} {L : List Ent} (hS : St w p mb most sv L) (x : Ent) (hj : ruleIdx x.rule L = none) (hL : L.length < 1048576) :
    Calls Tryz.prog 58 #[.pointer (some ⟨p, 0, none⟩), .agg #[.int .i64 x.rule.kind, .int .u8 x.rule.letter, .int .i64 x.rule.left, .int .i64 x.rule.right, .int .i64 x.rule.times, .int .i64 x.wt.len, .int .i64 x.wt.lines, .int .i64 x.wt.head, .int .i64 x.wt.tail, .int .u64 x.wt.val, .int .u64 x.wt.scale, .int .i64 x.depth, .bool x.even]] w
     fun e w' => e = .returned (.int .i64 ((L.length : Int) + 1)) ∧ ∃ sv', St w' p mb most sv' (L ++ [x]) ∧ Fr (fun k => k = p ∨ k = mb ∨ sv.ownBlock = some k) w w' ∧ (∀ k, sv'.ownBlock = some k → sv.ownBlock = some k ∨ w.heap.size ≤ k) := by
 obtain ⟨i0, hi0, hz0, hz1, hz2⟩ := info_parts info_entry
 have hu : Tryz.prog.underlying 98 = some (.slice 84) := Tryz.underlying98
 go_enter Tryz.func58, Tryz.ntmps58
 go_upto_region 1 with fail
 have hfb : Fr0 w (w.alloc (.cells #[.int .i64 x.rule.kind, .int .u8 x.rule.letter, .int .i64 x.rule.left, .int .i64 x.rule.right, .int .i64 x.rule.times, .int .i64 x.wt.len, .int .i64 x.wt.lines, .int .i64 x.wt.head, .int .i64 x.wt.tail, .int .u64 x.wt.val, .int .u64 x.wt.scale, .int .i64 x.depth, .bool x.even] 84 (0, 0))) := (Fr0.refl w).alloc _
 have hE : (w.alloc (.cells #[.int .i64 x.rule.kind, .int .u8 x.rule.letter, .int .i64 x.rule.left, .int .i64 x.rule.right, .int .i64 x.rule.times, .int .i64 x.wt.len, .int .i64 x.wt.lines, .int .i64 x.wt.head, .int .i64 x.wt.tail, .int .u64 x.wt.val, .int .u64 x.wt.scale, .int .i64 x.depth, .bool x.even] 84 (0, 0))).heap[w.heap.size]? = some (.cells #[.int .i64 x.rule.kind, .int .u8 x.rule.letter, .int .i64 x.rule.left, .int .i64 x.rule.right, .int .i64 x.rule.times, .int .i64 x.wt.len, .int .i64 x.wt.lines, .int .i64 x.wt.head, .int .i64 x.wt.tail, .int .u64 x.wt.val, .int .u64 x.wt.scale, .int .i64 x.depth, .bool x.even] 84 (0, 0)) := alloc_at _ _ _ rfl
 have hS1 := hS.kept0 hfb
 have hz : (w.alloc (.cells #[.int .i64 x.rule.kind, .int .u8 x.rule.letter, .int .i64 x.rule.left, .int .i64 x.rule.right, .int .i64 x.rule.times, .int .i64 x.wt.len, .int .i64 x.wt.lines, .int .i64 x.wt.head, .int .i64 x.wt.tail, .int .u64 x.wt.val, .int .u64 x.wt.scale, .int .i64 x.depth, .bool x.even] 84 (0, 0))).heap.size = w.heap.size + 1 := by simp
 generalize w.alloc (.cells #[.int .i64 x.rule.kind, .int .u8 x.rule.letter, .int .i64 x.rule.left, .int .i64 x.rule.right, .int .i64 x.rule.times, .int .i64 x.wt.len, .int .i64 x.wt.lines, .int .i64 x.wt.head, .int .i64 x.wt.tail, .int .u64 x.wt.val, .int .u64 x.wt.scale, .int .i64 x.depth, .bool x.even] 84 (0, 0)) = W at *
 generalize hN : w.heap.size = E at *
 have HN := Lib.hid hN
 clear hN
 have HZ := Lib.hid hz
 have lz : E < W.heap.size := by omega
 clear hz
 have lp := lt_of_block hS1.ptr
 have hpE : p ≠ E := by
  have := lt_of_block hS.ptr
  rw [HN.out] at this
  omega
 have hmE : mb ≠ E := by
  have := lt_of_block hS.mp
  rw [HN.out] at this
  omega
 have hpm : p ≠ mb := by
  intro e
  have h1 := hS1.ptr
  rw [e, hS1.mp] at h1
  cases h1
 obtain ⟨c0, c1, c2, f, l⟩ := cells3 hS1.ptr
 have hown := hS1.own
 have hbp : ∀ k, sv.ownBlock = some k → k ≠ p ∧ k ≠ mb ∧ k ≠ E ∧ k < E := by
  intro k hk
  have lk := (hS.own.lt k hk).2
  rw [HN.out] at lk
  rcases hS1.own.2 with ⟨h1, h2⟩ | ⟨g, cap, cur, h1, _, hg, _⟩
  · rw [h1] at hk; simp [Value.ownBlock] at hk
  · rw [h1] at hk
    simp [Value.ownBlock] at hk
    subst hk
    refine ⟨fun e => ?_, fun e => ?_, by omega, lk⟩
    · rw [e, hS1.ptr] at hg; simp at hg
    · rw [e, hS1.mp] at hg; simp at hg
 have hag : sv.ownBlock ≠ some p := fun e => (hbp p e).1 rfl
 have haE : sv.ownBlock ≠ some E := fun e => (hbp E e).2.2.1 rfl
 have ham : sv.ownBlock ≠ some mb := fun e => (hbp mb e).2.1 rfl
 have hn63 : L.length + 1 ≤ maxLen := by unfold maxLen; omega
 have hby : (L.length + 1) * 104 ≤ 140737488355328 := by omega
 have d0 : W.cell? ⟨E, 0, none⟩ = some (.int .i64 x.rule.kind) := by rw [cell_of_block hE]; rfl
 have d1 : W.cell? ⟨E, 1, none⟩ = some (.int .u8 x.rule.letter) := by rw [cell_of_block hE]; rfl
 have d2 : W.cell? ⟨E, 2, none⟩ = some (.int .i64 x.rule.left) := by rw [cell_of_block hE]; rfl
 have d3 : W.cell? ⟨E, 3, none⟩ = some (.int .i64 x.rule.right) := by rw [cell_of_block hE]; rfl
 have d4 : W.cell? ⟨E, 4, none⟩ = some (.int .i64 x.rule.times) := by rw [cell_of_block hE]; rfl
 have d5 : W.cell? ⟨E, 5, none⟩ = some (.int .i64 x.wt.len) := by rw [cell_of_block hE]; rfl
 have d6 : W.cell? ⟨E, 6, none⟩ = some (.int .i64 x.wt.lines) := by rw [cell_of_block hE]; rfl
 have d7 : W.cell? ⟨E, 7, none⟩ = some (.int .i64 x.wt.head) := by rw [cell_of_block hE]; rfl
 have d8 : W.cell? ⟨E, 8, none⟩ = some (.int .i64 x.wt.tail) := by rw [cell_of_block hE]; rfl
 have d9 : W.cell? ⟨E, 9, none⟩ = some (.int .u64 x.wt.val) := by rw [cell_of_block hE]; rfl
 have d10 : W.cell? ⟨E, 10, none⟩ = some (.int .u64 x.wt.scale) := by rw [cell_of_block hE]; rfl
 have d11 : W.cell? ⟨E, 11, none⟩ = some (.int .i64 x.depth) := by rw [cell_of_block hE]; rfl
 have d12 : W.cell? ⟨E, 12, none⟩ = some (.bool x.even) := by rw [cell_of_block hE]; rfl
 go_cut [] (fun wx => ∃ g cap, wx.heap[p]? = some (.cells #[.int .i64 most, .slice (some ⟨g, 0, none⟩) (L.length + 1) cap, .map (some mb)] 100 (0, 0)) ∧
    wx.ownsRow 0 84 13 (.slice (some ⟨g, 0, none⟩) (L.length + 1) cap) (L.length + 1) (entCells L ++ x.vals) ∧ Fr (fun k => k = p ∨ sv.ownBlock = some k) W wx ∧ (sv.ownBlock = some g ∨ W.heap.size ≤ g))
 case first =>
  have HP := Lib.hid hS1.ptr
  clear hS hS1 hE HZ hpE hmE hpm hbp hj hfb
  go_region_law ((refine step_append_lies _ (by rfl) _ _ _ (by rfl) 0 84 i0 _ 13 104 hu hi0 hz0 hz1 hz2 rfl (by omega) sv L.length (entCells L) (by rfl) ((hown.alloc _).drew) ⟨W.heap.size, 0, none⟩ 1 1 [.int .i64 x.rule.kind, .int .u8 x.rule.letter, .int .i64 x.rule.left, .int .i64 x.rule.right, .int .i64 x.rule.times, .int .i64 x.wt.len, .int .i64 x.wt.lines, .int .i64 x.wt.head, .int .i64 x.wt.tail, .int .u64 x.wt.val, .int .u64 x.wt.scale, .int .i64 x.depth, .bool x.even] (by rfl) (by rfl) (World.news_of_block (cs := #[.int .i64 x.rule.kind, .int .u8 x.rule.letter, .int .i64 x.rule.left, .int .i64 x.rule.right, .int .i64 x.rule.times, .int .i64 x.wt.len, .int .i64 x.wt.lines, .int .i64 x.wt.head, .int .i64 x.wt.tail, .int .u64 x.wt.val, .int .u64 x.wt.scale, .int .i64 x.depth, .bool x.even]) (t := 84) (fr := (0, 0)) (heap_alloc_new W _)) (by simp [Value.oneCell']) (by omega) hn63 hby (by omega) (W.heap.size + 1) (by simp) ?_; intro g cap w1 hown1 hgrow hat hlt; have e1 : w1.cell? ⟨p, 1, none⟩ = some sv := (hgrow.cell_far _ (by simp; omega) (Ne.symm hag)).trans ((cellA W _ p 1 lp).trans c1); have e2 : w1.frozen? ⟨p, 1, none⟩ = false := (hgrow.frozen_far _ (by simp; omega) (Ne.symm hag)).trans ((World.frozen?_of_block (alloc_lt W _ p lp)).trans (f 1))))
  all_goals
   go_wp2_with fail
   go_meet
   exact ⟨g, cap, add_meet HP.out hown1 hgrow hat hag⟩
 case rest =>
  obtain ⟨g, cap, hp2, ho2, hf2, hg2⟩ := hcut
  have hE2 := hf2.kept hE (by
   rintro (h | h)
   · exact hpE h.symm
   · exact haE h)
  have hm2 := hf2.kept hS1.mp (by
   rintro (h | h)
   · exact hpm h.symm
   · exact ham h)
  have hgm : g ≠ mb := by
   intro e
   rcases ho2.2 with ⟨h2, _⟩ | ⟨g', cap', cur, h2, _, hg, _⟩
   · cases h2
   · simp at h2
     rw [← h2.1, e, hm2] at hg
     simp at hg
  have HU := Lib.hid (run_update x wc.drew hm2 hj ((L.length : Int) + 1) rfl)
  have HS := Lib.hid hS
  have HS1 := Lib.hid hS1
  have lm2 := lt_of_block hm2
  clear c0 c1 c2 f l d0 d1 d2 d3 d4 d5 d6 d7 d8 d9 d10 d11 d12 hS hS1 hown lp hE hj
  obtain ⟨c0, c1, c2, f, l⟩ := cells3 hp2
  have d0 : wc.cell? ⟨E, 0, none⟩ = some (.int .i64 x.rule.kind) := by rw [cell_of_block hE2]; rfl
  have d1 : wc.cell? ⟨E, 1, none⟩ = some (.int .u8 x.rule.letter) := by rw [cell_of_block hE2]; rfl
  have d2 : wc.cell? ⟨E, 2, none⟩ = some (.int .i64 x.rule.left) := by rw [cell_of_block hE2]; rfl
  have d3 : wc.cell? ⟨E, 3, none⟩ = some (.int .i64 x.rule.right) := by rw [cell_of_block hE2]; rfl
  have d4 : wc.cell? ⟨E, 4, none⟩ = some (.int .i64 x.rule.times) := by rw [cell_of_block hE2]; rfl
  have HM2 := Lib.hid hm2
  have HP2 := Lib.hid hp2
  clear hm2 hp2 hE2
  go_wp2_with fail
  refine region_still_tail 7 (by kernel_rfl) (by kernel_rfl) ?_
  simp only [List.take_succ_cons, List.take_zero, List.drop_succ_cons, List.drop_zero]
  iterate 7 still_step
  refine wpStill_nil ?_
  have hu2 : (Instr.mapUpdate 97 (.map (some mb)) (.agg #[.int .i64 x.rule.kind, .int .u8 x.rule.letter, .int .i64 x.rule.left, .int .i64 x.rule.right, .int .i64 x.rule.times]) (.int .i64 ((L.length : Int) + 1))).run Tryz.prog wc.drew = .ok () (setB wc.drew mb (.map (entriesFrom 0 (L ++ [x])).toArray (L ++ [x]).length)) := HU.out
  generalize hWW : setB wc.drew mb (.map (entriesFrom 0 (L ++ [x])).toArray (L ++ [x]).length) = WW at *
  have HWW := Lib.hid hWW
  clear hWW
  go_wp2_with fail
  go_ret
  refine ⟨rfl, .slice (some ⟨g, 0, none⟩) (L.length + 1) cap, ?_, ?_, ?_⟩
  · rw [← HWW.out]
    refine ⟨(setB_other hpm).trans HP2.out, setB_same lm2, ?_, by simp; omega⟩
    have := owns_setB (w := wc.drew) ho2 mb (.map (entriesFrom 0 (L ++ [x])).toArray (L ++ [x]).length) (by simpa [Value.ownBlock] using hgm)
    simpa [entCells] using this
  · rw [← HWW.out]
    have h1 : Fr (fun k => k = p ∨ k = mb ∨ sv.ownBlock = some k) w wc := Fr.trans hfb.fr hf2 (fun i hi _ => hi.elim .inl (fun h => .inr (.inr h)))
    exact (Fr.drew h1).setB mb _ (fun _ => .inr (.inl rfl))
  · intro k hk
    simp [Value.ownBlock] at hk
    subst hk
    have := HN.out
    have := HZ.out
    rcases hg2 with h | h
    · exact .inl h
    · exact .inr (by omega)
end Go.Proofs.YtgldjpldldknoaaGreatDoor

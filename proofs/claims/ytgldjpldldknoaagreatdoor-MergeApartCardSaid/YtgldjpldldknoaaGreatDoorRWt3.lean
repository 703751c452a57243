/- The walk of weight.Join. -/
import Derived.Test.YtgldjpldldknoaaGreatDoorRWt2
import Derived.Deep.DeepCutAuto
set_option linter.unusedSimpArgs false
set_option linter.unusedVariables false
namespace Go.Proofs.YtgldjpldldknoaaGreatDoor
open Go.RowKit
theorem Fr0.size' {w w' : World} (h : Fr0 w w') : w.heap.size ≤ w'.heap.size := Fr.size h
theorem cellS (w : World) (b c o k : Nat) (v : Value) (h : b ≠ c) : (w.setCell ⟨c, o, none⟩ v).cell? ⟨b, k, none⟩ = w.cell? ⟨b, k, none⟩ := World.cell?_of_block (Below.heap_setCell _ _ _ _ h)
theorem set6 {w : World} {b : Nat} {t : TypeId} {f : Nat × Nat} {a0 a1 a2 a3 a4 a5 v0 v1 v2 v3 v4 v5 : Value} (h : w.heap[b]? = some (.cells #[a0, a1, a2, a3, a4, a5] t f)) :
    ((((((w.setCell ⟨b, 0, none⟩ v0).setCell ⟨b, 1, none⟩ v1).setCell ⟨b, 2, none⟩ v2).setCell ⟨b, 3, none⟩ v3).setCell ⟨b, 4, none⟩ v4).setCell ⟨b, 5, none⟩ v5).heap[b]? = some (.cells #[v0, v1, v2, v3, v4, v5] t f) :=
 setCell_block (setCell_block (setCell_block (setCell_block (setCell_block (setCell_block h 0 v0) 1 v1) 2 v2) 3 v3) 4 v4) 5 v5
theorem cellA (w : World) (o : Obj) (b k : Nat) (h : b < w.heap.size) : (w.alloc o).cell? ⟨b, k, none⟩ = w.cell? ⟨b, k, none⟩ := World.cell?_of_block (alloc_lt w o b h)
set_option maxRecDepth 100000 in
set_option maxHeartbeats 2000000 in
theorem wt_Join (a b : Wt) (w : World) (ha : WOk a) (hb : WOk b) (hl : a.len + b.len ≤ 1152921504606846976) :
    Calls Tryz.prog 60 #[.agg #[.int .i64 a.len, .int .i64 a.lines, .int .i64 a.head, .int .i64 a.tail, .int .u64 a.val, .int .u64 a.scale],
     .agg #[.int .i64 b.len, .int .i64 b.lines, .int .i64 b.head, .int .i64 b.tail, .int .u64 b.val, .int .u64 b.scale]] w
     fun e w' => e = .returned (.tuple #[.agg (a.join b).vals.toArray, .nilIface]) ∧ Fr0 w w' := by
 have va := fun w => wt_Valid a w ha
 have vb := fun w => wt_Valid b w hb
 have hd1 := ha.dred
 have hd2 := hb.dred
 have cj := fun w => dig_Join a.val a.scale b.val b.scale w hd1.1.1 (by have := hd1.1.2; simp at this; omega) hd1.2.1 (by have := hd1.2.2; simp at this; omega) hd2.1.1 (by have := hd2.1.2; simp at this; omega) hd2.2.1 (by have := hd2.2.2; simp at this; omega)
 have q1 := ha.len0
 have q2 := hb.len0
 have q3 : 0 ≤ a.lines ∧ a.lines ≤ a.len ∧ 0 ≤ a.head ∧ a.head ≤ a.len ∧ 0 ≤ a.tail ∧ a.tail ≤ a.len := by
  have := ha.lines0
  by_cases e : a.lines = 0
  · have := ha.one e; omega
  · have := ha.more e; omega
 have q4 : 0 ≤ b.lines ∧ b.lines ≤ b.len ∧ 0 ≤ b.head ∧ b.head ≤ b.len ∧ 0 ≤ b.tail ∧ b.tail ≤ b.len := by
  have := hb.lines0
  by_cases e : b.lines = 0
  · have := hb.one e; omega
  · have := hb.more e; omega
 have hj : (a.join b).vals.toArray = #[.int .i64 (a.len + b.len), .int .i64 (a.lines + b.lines), .int .i64 (if a.lines = 0 then a.len + b.head else a.head), .int .i64 (if b.lines = 0 then b.len + a.tail else b.tail), .int .u64 ((a.val * b.scale % PP + b.val) % PP), .int .u64 (a.scale * b.scale % PP)] := rfl
 rw [hj]
 generalize (a.val * b.scale % PP + b.val) % PP = z1 at *
 generalize a.scale * b.scale % PP = z2 at *
 obtain ⟨al, an, ah, at', av, as'⟩ := a
 obtain ⟨bl, bn, bh, bt, bv, bs⟩ := b
 simp only at *
 obtain ⟨hd, hhd⟩ : ∃ x, (if an = 0 then al + bh else ah) = x := ⟨_, rfl⟩
 obtain ⟨tl, htl⟩ : ∃ x, (if bn = 0 then bl + at' else bt) = x := ⟨_, rfl⟩
 rw [hhd, htl]
 have VA := Lib.hid va
 have VB := Lib.hid vb
 have CJ := Lib.hid cj
 clear va vb cj hd1 hd2 ha hb hj
 obtain ⟨r1, r2, r3, r4, r5, r6⟩ := q3
 obtain ⟨s1, s2, s3, s4, s5, s6⟩ := q4
 have HHD := Lib.hid hhd
 have HTL := Lib.hid htl
 clear hhd htl
 go_enter Tryz.func60, Tryz.ntmps60
 go_wp2_with fail
 refine (VA.out _).mono ?_
 rintro e w1 ⟨rfl, hf1⟩
 have hs1 := hf1.size'
 have ha1 : w1.heap[w.heap.size]? = some (.cells #[.int .i64 al, .int .i64 an, .int .i64 ah, .int .i64 at', .int .u64 av, .int .u64 as'] 47 (0, 0)) := hf1.kept (alloc3_0 _ _ _ _)
 have hb1 : w1.heap[w.heap.size + 1]? = some (.cells #[.int .i64 bl, .int .i64 bn, .int .i64 bh, .int .i64 bt, .int .u64 bv, .int .u64 bs] 47 (0, 0)) := hf1.kept (alloc3_1 _ _ _ _)
 have hc1 : w1.heap[w.heap.size + 2]? = some (.cells #[.int .i64 0, .int .i64 0, .int .i64 0, .int .i64 0, .int .u64 0, .int .u64 0] 47 (0, 0)) := hf1.kept (alloc3_2 _ _ _ _)
 have cA : ∀ o, w1.cell? ⟨w.heap.size, o, none⟩ = #[Value.int .i64 al, .int .i64 an, .int .i64 ah, .int .i64 at', .int .u64 av, .int .u64 as'][o]? := cell_of_block ha1
 have cB : ∀ o, w1.cell? ⟨w.heap.size + 1, o, none⟩ = #[Value.int .i64 bl, .int .i64 bn, .int .i64 bh, .int .i64 bt, .int .u64 bv, .int .u64 bs][o]? := cell_of_block hb1
 go_wp2_with fail
 refine (VB.out _).mono ?_
 rintro e w2 ⟨rfl, hf2⟩
 have hs2 := hf2.size'
 have ha2 := hf2.kept ha1
 have hb2 := hf2.kept hb1
 have hc2 := hf2.kept hc1
 have hW2 : Fr0 w w2 := ((((Fr0.refl w).alloc _).alloc _).alloc _).trans (hf1.trans hf2)
 have hsz : w.heap.size + 3 ≤ w2.heap.size := by have := hs1; simp at this; omega
 clear hf1 hf2 hs1 hs2 cA cB ha1 hb1 hc1 VA VB
 have cA0 : w2.cell? ⟨w.heap.size, 0, none⟩ = some (.int .i64 al) := by rw [cell_of_block ha2]; rfl
 have cA1 : w2.cell? ⟨w.heap.size, 1, none⟩ = some (.int .i64 an) := by rw [cell_of_block ha2]; rfl
 have cA2 : w2.cell? ⟨w.heap.size, 2, none⟩ = some (.int .i64 ah) := by rw [cell_of_block ha2]; rfl
 have cA3 : w2.cell? ⟨w.heap.size, 3, none⟩ = some (.int .i64 at') := by rw [cell_of_block ha2]; rfl
 have cA4 : w2.cell? ⟨w.heap.size, 4, none⟩ = some (.int .u64 av) := by rw [cell_of_block ha2]; rfl
 have cA5 : w2.cell? ⟨w.heap.size, 5, none⟩ = some (.int .u64 as') := by rw [cell_of_block ha2]; rfl
 have cB0 : w2.cell? ⟨w.heap.size + 1, 0, none⟩ = some (.int .i64 bl) := by rw [cell_of_block hb2]; rfl
 have cB1 : w2.cell? ⟨w.heap.size + 1, 1, none⟩ = some (.int .i64 bn) := by rw [cell_of_block hb2]; rfl
 have cB2 : w2.cell? ⟨w.heap.size + 1, 2, none⟩ = some (.int .i64 bh) := by rw [cell_of_block hb2]; rfl
 have cB3 : w2.cell? ⟨w.heap.size + 1, 3, none⟩ = some (.int .i64 bt) := by rw [cell_of_block hb2]; rfl
 have cB4 : w2.cell? ⟨w.heap.size + 1, 4, none⟩ = some (.int .u64 bv) := by rw [cell_of_block hb2]; rfl
 have cB5 : w2.cell? ⟨w.heap.size + 1, 5, none⟩ = some (.int .u64 bs) := by rw [cell_of_block hb2]; rfl
 clear w1
 generalize hA : w.heap.size = A at *
 have HA := Lib.hid hA
 clear hA
 have hA2 : A < w2.heap.size := by omega
 have hB2 : A + 1 < w2.heap.size := by omega
 have hC2 : A + 2 < w2.heap.size := by omega
 go_wp2_with fail
 refine (len_Add_ok _ _ _ (by omega) (by omega) (by omega)).mono ?_
 rintro e w' ⟨rfl, rfl⟩
 go_upto_region 6 with fail
 have hneA : A ≠ w2.heap.size := by omega
 have hneB : A + 1 ≠ w2.heap.size := by omega
 have hwr := IntWalk.i64_in (an + bn) (by omega)
 go_cut [8] (fun s8 wx => ∃ D : Nat, s8 = .pointer (some ⟨D, 0, none⟩) ∧ A + 2 < D ∧ Fr0 w2 wx ∧ wx.heap[D]? = some (.cells #[.int .i64 (al + bl), .int .i64 (an + bn), .int .i64 ah, .int .i64 bt, .int .u64 z1, .int .u64 z2] 47 (0, 0)))
 case first =>
  go_region_held3 (fun w' => w'.cell? ⟨A, 1, none⟩ = some (.int .i64 an) ∧ w'.cell? ⟨A + 1, 1, none⟩ = some (.int .i64 bn) ∧ w'.cell? ⟨A, 2, none⟩ = some (.int .i64 ah) ∧ w'.cell? ⟨A + 1, 3, none⟩ = some (.int .i64 bt) ∧
      w'.cell? ⟨A, 4, none⟩ = some (.int .u64 av) ∧ w'.cell? ⟨A, 5, none⟩ = some (.int .u64 as') ∧ w'.cell? ⟨A + 1, 4, none⟩ = some (.int .u64 bv) ∧ w'.cell? ⟨A + 1, 5, none⟩ = some (.int .u64 bs))
   (first | (go_keep; done) | ((try dsimp only); (repeat' apply And.intro); all_goals (first | (go_keep; done) | (go_split_ands; rw [hf3.cell _ _ (by simp; omega)]; assumption) | (go_split_ands; (simp only [cellA _ _ _ _ hA3, cellA _ _ _ _ hB3] at *); assumption) | (go_split_ands; (simp only [cellS _ _ _ _ _ _ hneA, cellS _ _ _ _ _ _ hneB]); assumption))))
   (first | (go_at_call 73; refine (CJ.out _).mono ?_; rintro e w3 ⟨rfl, hf3⟩; obtain ⟨hcc, hcf⟩ := hf3.cells; have hA3 : A < w3.heap.size := (by have hq := hf3.size'; (try simp at hq); omega); have hB3 : A + 1 < w3.heap.size := (by have hq := hf3.size'; (try simp at hq); omega)))
  · go_wp2_with fail
    go_meet
    have hq := hf3.size'
    simp at hq
    exact ⟨_, rfl, by omega, ((Fr0.refl w2).drew.trans hf3).alloc _, alloc_at _ _ _ rfl⟩
  · go_wp2_with fail
    go_meet
    have hq := hf3.size'
    simp at hq
    refine ⟨_, rfl, by omega, ?_, set6 (hf3.kept (alloc_at _ _ _ rfl))⟩
    refine (((((((Fr0.refl w2).drew.alloc _).trans hf3).setCell _ _ ?_).setCell _ _ ?_).setCell _ _ ?_).setCell _ _ ?_ |>.setCell _ _ ?_).setCell _ _ ?_ <;> exact Nat.le_refl _
 case rest =>
  obtain ⟨D, rfl, hD, hfx, hDx⟩ := hcut
  have hax := hfx.kept ha2
  have hbx := hfx.kept hb2
  have hcx := hfx.kept hc2
  clear ha2 hb2 hc2 cA0 cA1 cA2 cA3 cA4 cA5 cB0 cB1 cB2 cB3 cB4 cB5 hwr hneA hneB CJ
  have hWx : Fr0 w wc := hW2.trans hfx
  have lD := lt_of_block hDx
  clear hfx hW2 hsz hA2 hB2 hC2
  clear w2
  have cA0 : wc.cell? ⟨A, 0, none⟩ = some (.int .i64 al) := by rw [cell_of_block hax]; rfl
  have cA1 : wc.cell? ⟨A, 1, none⟩ = some (.int .i64 an) := by rw [cell_of_block hax]; rfl
  have cA3 : wc.cell? ⟨A, 3, none⟩ = some (.int .i64 at') := by rw [cell_of_block hax]; rfl
  have cB0 : wc.cell? ⟨A + 1, 0, none⟩ = some (.int .i64 bl) := by rw [cell_of_block hbx]; rfl
  have cB1 : wc.cell? ⟨A + 1, 1, none⟩ = some (.int .i64 bn) := by rw [cell_of_block hbx]; rfl
  have cB2 : wc.cell? ⟨A + 1, 2, none⟩ = some (.int .i64 bh) := by rw [cell_of_block hbx]; rfl
  have cC0 : wc.cell? ⟨A + 2, 0, none⟩ = some (.int .i64 0) := by rw [cell_of_block hcx]; rfl
  have cC1 : wc.cell? ⟨A + 2, 1, none⟩ = some (.int .i64 0) := by rw [cell_of_block hcx]; rfl
  have cC2 : wc.cell? ⟨A + 2, 2, none⟩ = some (.int .i64 0) := by rw [cell_of_block hcx]; rfl
  have cC3 : wc.cell? ⟨A + 2, 3, none⟩ = some (.int .i64 0) := by rw [cell_of_block hcx]; rfl
  have cC4 : wc.cell? ⟨A + 2, 4, none⟩ = some (.int .u64 0) := by rw [cell_of_block hcx]; rfl
  have cC5 : wc.cell? ⟨A + 2, 5, none⟩ = some (.int .u64 0) := by rw [cell_of_block hcx]; rfl
  have fC : ∀ o, wc.frozen? ⟨A + 2, o, none⟩ = false := fun o => frozen_of_block hcx o
  have cD0 : wc.cell? ⟨D, 0, none⟩ = some (.int .i64 (al + bl)) := by rw [cell_of_block hDx]; rfl
  have cD1 : wc.cell? ⟨D, 1, none⟩ = some (.int .i64 (an + bn)) := by rw [cell_of_block hDx]; rfl
  have cD2 : wc.cell? ⟨D, 2, none⟩ = some (.int .i64 ah) := by rw [cell_of_block hDx]; rfl
  have cD3 : wc.cell? ⟨D, 3, none⟩ = some (.int .i64 bt) := by rw [cell_of_block hDx]; rfl
  have cD4 : wc.cell? ⟨D, 4, none⟩ = some (.int .u64 z1) := by rw [cell_of_block hDx]; rfl
  have cD5 : wc.cell? ⟨D, 5, none⟩ = some (.int .u64 z2) := by rw [cell_of_block hDx]; rfl
  have fD : ∀ o, wc.frozen? ⟨D, o, none⟩ = false := fun o => frozen_of_block hDx o
  have HX := Lib.hid hax
  clear hax hbx hcx hDx
  have n1 : ¬ A = D := by omega
  have n2 : ¬ A + 1 = D := by omega
  have n3 : ¬ A + 2 = D := by omega
  have n4 : ¬ D = A := by omega
  have n5 : ¬ D = A + 1 := by omega
  have n6 : ¬ D = A + 2 := by omega
  by_cases ea : an = 0 <;> by_cases eb : bn = 0
  · have e1 : al + bh = hd := (if_pos ea).symm.trans HHD.out
    have e2 : bl + at' = tl := (if_pos eb).symm.trans HTL.out
    have ga : (an == 0) = true := by simpa using ea
    have gb : (bn == 0) = true := by simpa using eb
    clear ea eb HHD HTL
    subst e1 e2
    go_wp2_with fail
    exact bodyPost_ret (v := .tuple #[.agg #[.int .i64 (al + bl), .int .i64 (an + bn), .int .i64 (al + bh), .int .i64 (bl + at'), .int .u64 z1, .int .u64 z2], .nilIface]) (by simp [results, Tryz.results60, go_sem, *]) rfl
     ⟨rfl, by
      (repeat' (first | (with_reducible exact hWx) | (with_reducible refine Fr0.setCell ?_ _ _ ?_))) <;> (rw [HA.out]; dsimp only; omega)⟩
  · have e1 : al + bh = hd := (if_pos ea).symm.trans HHD.out
    have e2 : bt = tl := (if_neg eb).symm.trans HTL.out
    have ga : (an == 0) = true := by simpa using ea
    have gb : (bn == 0) = false := by simpa using eb
    clear ea eb HHD HTL
    subst e1 e2
    go_wp2_with fail
    exact bodyPost_ret (v := .tuple #[.agg #[.int .i64 (al + bl), .int .i64 (an + bn), .int .i64 (al + bh), .int .i64 (bt), .int .u64 z1, .int .u64 z2], .nilIface]) (by simp [results, Tryz.results60, go_sem, *]) rfl
     ⟨rfl, by
      (repeat' (first | (with_reducible exact hWx) | (with_reducible refine Fr0.setCell ?_ _ _ ?_))) <;> (rw [HA.out]; dsimp only; omega)⟩
  · have e1 : ah = hd := (if_neg ea).symm.trans HHD.out
    have e2 : bl + at' = tl := (if_pos eb).symm.trans HTL.out
    have ga : (an == 0) = false := by simpa using ea
    have gb : (bn == 0) = true := by simpa using eb
    clear ea eb HHD HTL
    subst e1 e2
    go_wp2_with fail
    exact bodyPost_ret (v := .tuple #[.agg #[.int .i64 (al + bl), .int .i64 (an + bn), .int .i64 (ah), .int .i64 (bl + at'), .int .u64 z1, .int .u64 z2], .nilIface]) (by simp [results, Tryz.results60, go_sem, *]) rfl
     ⟨rfl, by
      (repeat' (first | (with_reducible exact hWx) | (with_reducible refine Fr0.setCell ?_ _ _ ?_))) <;> (rw [HA.out]; dsimp only; omega)⟩
  · have e1 : ah = hd := (if_neg ea).symm.trans HHD.out
    have e2 : bt = tl := (if_neg eb).symm.trans HTL.out
    have ga : (an == 0) = false := by simpa using ea
    have gb : (bn == 0) = false := by simpa using eb
    clear ea eb HHD HTL
    subst e1 e2
    go_wp2_with fail
    exact bodyPost_ret (v := .tuple #[.agg #[.int .i64 (al + bl), .int .i64 (an + bn), .int .i64 (ah), .int .i64 (bt), .int .u64 z1, .int .u64 z2], .nilIface]) (by simp [results, Tryz.results60, go_sem, *]) rfl
     ⟨rfl, by
      (repeat' (first | (with_reducible exact hWx) | (with_reducible refine Fr0.setCell ?_ _ _ ?_))) <;> (rw [HA.out]; dsimp only; omega)⟩
end Go.Proofs.YtgldjpldldknoaaGreatDoor

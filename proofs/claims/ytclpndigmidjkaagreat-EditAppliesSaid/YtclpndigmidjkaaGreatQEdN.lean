/- The walks of begun without rules, and of EditNone. -/
import Derived.Test.YtclpndigmidjkaaGreatQEd1
set_option linter.unusedSimpArgs false
set_option linter.unusedVariables false
namespace Go.Proofs.YtclpndigmidjkaaGreat
open Go.RowKit

theorem Kp.fr0 {B mb : Nat} {w0 w1 w' : World} (h0 : Fr0 w0 w1) (h : Kp B mb w1 w') (hB : w0.heap.size ≤ B) : Fr0 w0 w' :=
  ⟨h.os.trans h0.os, h.tape.trans h0.tape, h.output.trans h0.output, Nat.le_trans h0.size h.size, fun k hk _ => (h.low k (by omega) (Nat.lt_of_lt_of_le hk h0.size)).trans (h0.block k hk id)⟩

set_option maxRecDepth 100000 in
set_option maxHeartbeats 400000 in
theorem st_New100 (w : World) :
    Calls Tryz.prog 10 #[.int .i64 100] w fun e w' => e = .returned (.pointer (some ⟨w.heap.size + 1, 0, none⟩)) ∧ Fr0 w w' ∧ St w' (w.heap.size + 1) w.heap.size 100 (.slice none 0 0) [] ∧ w'.heap.size = w.heap.size + 2 := by
  have hmm := @run_makeMap Tryz.prog
  go_enter Tryz.func10, Tryz.ntmps10
  go_wp2_with fail
  refine (len_Clip _ _ _ _).mono ?_
  rintro e w' ⟨rfl, rfl⟩
  go_wp2_with fail
  go_ret
  refine ⟨rfl, ((Fr0.refl w).alloc _).alloc _, ⟨alloc2_1 _ _ _, alloc2_0 _ _ _, World.ownsRow_nil _ _ _ _, by simp⟩, by simp⟩

/-- A slice of one zero. -/
def Zero1 (w : World) (v : Value) : Prop := ∃ b, v = .slice (some ⟨b, 0, none⟩) 1 1 ∧ w.heap[b]? = some (Obj.cells #[.int .i64 0] 39 (0, 0))

set_option maxRecDepth 100000 in
set_option maxHeartbeats 400000 in
theorem ref12_Build_nil (w : World) :
    Calls Tryz.prog 12 #[.slice none 0 0] w fun e w' => ∃ v, e = .returned (.tuple #[.agg #[.slice none 0 0, .slice none 0 0], v]) ∧ Zero1 w' v ∧ Fr0 w w' := by
  go_enter Tryz.func12, Tryz.ntmps12
  go_wp2_with fail
  go_loop [5, 6] (fun r i => r = .slice (some ⟨w.heap.size + 2, 0, none⟩) 1 1 ∧ i = .int .i64 0) (fun _ _ => 0)
  case atStart => exact ⟨rfl, rfl⟩
  case round =>
    obtain ⟨rfl, rfl⟩ := hrel
    go_wp2_with fail
    refine bodyPost_ret (v := .tuple #[.agg #[.slice none 0 0, .slice none 0 0], .slice (some ⟨w.heap.size + 2, 0, none⟩) 1 1]) (by simp [results, Tryz.results12, go_sem]) rfl ?_
    refine ⟨_, rfl, ⟨_, rfl, ?_⟩, ?_⟩
    · first | exact alloc3_2 _ _ _ _ | (rw [setCell_other _ _ (by simp)]; exact alloc3_2 _ _ _ _)
    · (repeat' (first | (with_reducible exact Fr0.refl _) | (with_reducible refine Fr0.setCell ?_ _ _ ?_) | (with_reducible refine Fr0.alloc ?_ _) | (with_reducible refine Fr0.drew ?_))) <;> first | omega | (dsimp only; omega) | (simp; done) | (simp; omega)

set_option maxRecDepth 100000 in
set_option maxHeartbeats 400000 in
theorem law12_Build_nil (p : Nat) (w : World) :
    Calls Tryz.prog 11 #[.pointer (some ⟨p, 0, none⟩), .slice none 0 0] w fun e w' => ∃ v, e = .returned (.tuple #[v, .bool true]) ∧ Zero1 w' v ∧ Fr0 w w' := by
  have CB := Lib.hid (ref12_Build_nil w)
  go_enter Tryz.func11, Tryz.ntmps11
  go_wp2_with fail
  refine CB.out.mono ?_
  rintro e w1 ⟨v, rfl, -, f1⟩
  go_wp2_with fail
  go_loop [8, 22] (fun r i => r = .slice (some ⟨w1.heap.size + 1, 0, none⟩) 1 1 ∧ i = .int .i64 0) (fun _ _ => 0)
  case atStart => exact ⟨rfl, rfl⟩
  case round =>
    obtain ⟨rfl, rfl⟩ := hrel
    go_wp2_with fail
    go_ret2
    exact ⟨_, rfl, ⟨_, rfl, alloc2_1 _ _ _⟩, (f1.alloc _).alloc _⟩

set_option maxRecDepth 100000 in
set_option maxHeartbeats 400000 in
theorem bal_Of_even {B : Nat} {w : World} {p mb : Nat} {most : Int} {L : List Ent} (hS : Sto B w p mb most L) (id : Int) (h : isKnown L id) (he : (entAt L id).even = true) :
    Calls Tryz.prog 70 #[.pointer (some ⟨p, 0, none⟩), .int .i64 id] w fun e w' => e = .returned (.tuple #[.int .i64 id, .nilIface]) ∧ Fr0 w w' := by
  have C1 := Lib.hid (sto_Balanced hS id h true he)
  clear hS h he
  go_enter Tryz.func70, Tryz.ntmps70
  go_wp2_with fail
  refine C1.out.mono ?_
  rintro e w1 ⟨rfl, f1⟩
  go_wp2_with fail
  go_ret2
  exact ⟨rfl, f1⟩

theorem Zero1.kept0 {w w' : World} {v : Value} (h : Zero1 w v) (hf : Fr0 w w') : Zero1 w' v := by
  obtain ⟨b, h1, h2⟩ := h
  exact ⟨b, h1, hf.kept h2⟩

/-- A world in memory. -/
structure Wd (w0 w : World) (q p mb : Nat) (rv lv va vi : Value) (L : List Ent) : Prop where
  fr : Fr0 w0 w
  new : w0.heap.size ≤ q
  ptr : w.heap[q]? = some (Obj.cells #[.pointer (some ⟨p, 0, none⟩), rv, lv, va, vi] 93 (0, 0))
  st : Sto w0.heap.size w p mb 1048576 L

theorem Wd.kept0 {w0 w w' : World} {q p mb : Nat} {rv lv va vi : Value} {L : List Ent} (h : Wd w0 w q p mb rv lv va vi L) (hf : Fr0 w w') : Wd w0 w' q p mb rv lv va vi L := ⟨h.fr.trans hf, h.new, hf.kept h.ptr, h.st.kept0 hf⟩
theorem Wd.front {w0 w : World} {q p mb : Nat} {rv lv va vi : Value} {L : List Ent} (h : Wd w0 w q p mb rv lv va vi L) : w.cell? ⟨q, 0, none⟩ = some (.pointer (some ⟨p, 0, none⟩)) ∧ w.cell? ⟨q, 1, none⟩ = some rv ∧ w.cell? ⟨q, 2, none⟩ = some lv ∧ w.cell? ⟨q, 3, none⟩ = some va ∧ w.cell? ⟨q, 4, none⟩ = some vi ∧ (∀ o, w.frozen? ⟨q, o, none⟩ = false) ∧ q < w.heap.size :=
  ⟨by rw [cell_of_block h.ptr]; rfl, by rw [cell_of_block h.ptr]; rfl, by rw [cell_of_block h.ptr]; rfl, by rw [cell_of_block h.ptr]; rfl, by rw [cell_of_block h.ptr]; rfl, fun o => frozen_of_block h.ptr o, lt_of_block h.ptr⟩

/-- A field of the world is stored. -/
theorem Wd.stored {w0 w w' : World} {q p mb : Nat} {rv lv va vi : Value} {L : List Ent} {rv' lv' va' vi' : Value} (h : Wd w0 w q p mb rv lv va vi L) (hf : Fr (fun k => k = q) w w')
    (hq : w'.heap[q]? = some (Obj.cells #[.pointer (some ⟨p, 0, none⟩), rv', lv', va', vi'] 93 (0, 0))) : Wd w0 w' q p mb rv' lv' va' vi' L := by
  have hn := h.new
  refine ⟨Fr.trans h.fr hf (fun i hi hlt => by omega), h.new, hq, ?_⟩
  obtain ⟨sv, hS, q⟩ := h.st
  refine ⟨sv, hS.kept hf ?_ ?_ ?_, q⟩
  · exact fun e => ne_of_types hS.ptr h.ptr (by decide) e
  · exact fun e => ne_of_map hS.mp h.ptr e
  · intro k hk e
    obtain ⟨cur, hc⟩ := owns_block hS.own hk
    exact ne_of_types hc h.ptr (by decide) e

/-- What begun leaves without rules. -/
def BegN (w : World) (e : Ending) (w' : World) : Prop := ∃ q p mb va vi, e = .returned (.tuple #[.pointer (some ⟨q, 0, none⟩), .bool true]) ∧ Wd w w' q p mb (.slice none 0 0) (.slice none 0 0) va vi [] ∧ Zero1 w' va ∧ w'.ownsRow w.heap.size 39 1 vi 1 [.int .i64 0]

theorem BegN.drewN {w w' : World} {e : Ending} (h : BegN w e w') (n : Nat) : BegN w e (w'.drewN n) := by
  obtain ⟨q, p, mb, va, vi, h1, h2, h3, h4⟩ := h
  have hf : Fr0 w' (w'.drewN n) := (Fr0.refl w').drewN n
  exact ⟨q, p, mb, va, vi, h1, h2.kept0 hf, h3.kept0 hf, hf.owns h4⟩

/-- The fixed call of begun: two letters. -/
theorem one_letter : BalZ (addL [] (letterEnt 97)) (addI [] (letterEnt 97)) [97] 0 ∧ SOk (addL [] (letterEnt 97)) ∧ DOk (addL [] (letterEnt 97)) ∧ (addL [] (letterEnt 97)).length = 1 := by
  have h := TextOk.one SOk.nil DOk.nil 97 (by omega) (by omega)
  have he := ent_letter DOk.nil (b := 97)
  refine ⟨⟨h.known, ?_, h.even, h.depth⟩, h.sok, h.dok, rfl⟩
  rw [txt_letter h.known h.ne (by rw [he]; rfl), he]
  rfl

set_option maxRecDepth 100000 in
set_option maxHeartbeats 2000000 in
theorem law36_begun_nil (w : World) :
    Calls Tryz.prog 35 #[.slice none 0 0] w (BegN w) := by
  obtain ⟨o1, o2, o3, o4⟩ := one_letter
  have O1 := Lib.hid o1
  have O2 := Lib.hid o2
  have O3 := Lib.hid o3
  have O4 := Lib.hid o4
  clear o1 o2 o3 o4
  go_enter Tryz.func35, Tryz.ntmps35
  go_wp2_with fail
  refine (st_New _).mono ?_
  rintro e w1 ⟨rfl, f1, hS1, hz1⟩
  go_wp2_with fail
  have hW : Wd w (w1.alloc (.cells #[.pointer (some ⟨w.heap.size + 1, 0, none⟩), .slice none 0 0, .slice none 0 0, .slice none 0 0, .slice none 0 0] 93 (0, 0))) (w.heap.size + 2) (w.heap.size + 1) w.heap.size (.slice none 0 0) (.slice none 0 0) (.slice none 0 0) (.slice none 0 0) [] :=
    ⟨f1.alloc _, by omega, alloc_at _ _ _ hz1.symm, ⟨_, hS1.kept0 ((Fr0.refl w1).alloc _), by omega, by omega, fun k hk => by simp [Value.ownBlock] at hk⟩⟩
  clear f1 hS1 hz1
  generalize hw2 : w1.alloc (.cells #[.pointer (some ⟨w.heap.size + 1, 0, none⟩), .slice none 0 0, .slice none 0 0, .slice none 0 0, .slice none 0 0] 93 (0, 0)) = w2 at *
  clear hw2
  generalize w.heap.size + 2 = q at *
  generalize w.heap.size + 1 = p at *
  refine (ref12_Build_nil _).mono ?_
  rintro e w3 ⟨v3, rfl, -, f3⟩
  have hW3 := hW.kept0 f3
  clear hW f3
  obtain ⟨c0, c1, c2, c3, c4, cf, lq⟩ := hW3.front
  go_wp2_with fail
  have hW4 : Wd w ((w3.setCell ⟨q, 1, none⟩ (.slice none 0 0)).setCell ⟨q, 2, none⟩ (.slice none 0 0)) q p w.heap.size (.slice none 0 0) (.slice none 0 0) (.slice none 0 0) (.slice none 0 0) [] :=
    hW3.stored (((Fr.refl (fun k => k = q) w3).setCell _ _ (fun _ => rfl)).setCell _ _ (fun _ => rfl)) (setCell_block (setCell_block hW3.ptr 1 _) 2 _)
  clear hW3 c0 c1 c2 c3 c4 cf lq
  generalize (w3.setCell ⟨q, 1, none⟩ (.slice none 0 0)).setCell ⟨q, 2, none⟩ (.slice none 0 0) = w4 at *
  refine (law12_Build_nil p _).mono ?_
  rintro e w5 ⟨va, rfl, ⟨b, rfl, hb5⟩, f5⟩
  have hW5 := hW4.kept0 f5
  clear hW4 f5
  obtain ⟨c0, c1, c2, c3, c4, cf, lq⟩ := hW5.front
  have hbq : b ≠ q := ne_of_types hb5 hW5.ptr (by decide)
  have HB6 := Lib.hid (show (w5.setCell ⟨q, 3, none⟩ (.slice (some ⟨b, 0, none⟩) 1 1)).heap[b]? = some (Obj.cells #[.int .i64 0] 39 (0, 0)) from (setCell_other _ _ hbq).trans hb5)
  have HW6 := Lib.hid (show Wd w (w5.setCell ⟨q, 3, none⟩ (.slice (some ⟨b, 0, none⟩) 1 1)) q p w.heap.size (.slice none 0 0) (.slice none 0 0) (.slice (some ⟨b, 0, none⟩) 1 1) (.slice none 0 0) [] from
    hW5.stored ((Fr.refl (fun k => k = q) w5).setCell _ _ (fun _ => rfl)) (setCell_block hW5.ptr 3 _))
  clear hW5 hb5 hbq
  go_wp2_with fail
  clear c0 c1 c2 c3 c4 cf lq
  go_loopw [46] (fun i wr => ∃ (k : Nat) (vi : Value), k ≤ 1 ∧ i = .int .i64 k ∧ Wd w wr q p w.heap.size (.slice none 0 0) (.slice none 0 0) (.slice (some ⟨b, 0, none⟩) 1 1) vi [] ∧ wr.heap[b]? = some (Obj.cells #[.int .i64 0] 39 (0, 0)) ∧ (k = 0 → vi = .slice none 0 0) ∧ wr.ownsRow w.heap.size 39 1 vi k (List.replicate k (.int .i64 0))) (fun i _ => 1 - (intOf i).toNat)
  case atStart => exact ⟨0, .slice none 0 0, by omega, rfl, HW6.out, HB6.out, fun _ => rfl, World.ownsRow_nil _ _ _ _⟩
  case round =>
    obtain ⟨k, vi, hk, rfl, hW, hb, hvi, hown⟩ := hrel
    clear HW6 HB6
    by_cases h0 : k = 0
    · have hv := hvi h0
      subst h0
      subst hv
      obtain ⟨c0, c1, c2, c3, c4, cf, lq⟩ := hW.front
      have cb : wr.cell? ⟨b, 0, none⟩ = some (.int .i64 0) := by rw [cell_of_block hb]; rfl
      have lb := lt_of_block hb
      have CO := Lib.hid (bal_Of_even hW.st 0 ⟨by omega, by omega⟩ rfl)
      have HW := Lib.hid hW
      have HB := Lib.hid hb
      clear hW hb hvi hown O1 O2 O3 O4
      go_wp2_with fail
      refine CO.out.mono ?_
      rintro e w7 ⟨rfl, f7⟩
      have hW7 := HW.out.kept0 f7
      have hb7 := f7.kept HB.out
      clear c0 c1 c2 c3 c4 cf lq cb lb HW HB CO
      obtain ⟨c0, c1, c2, c3, c4, cf, lq⟩ := hW7.front
      have hbs : w.heap.size ≤ w7.heap.size := hW7.fr.size
      have HW7 := Lib.hid hW7
      have HB7 := Lib.hid hb7
      have hbq : b ≠ q := ne_of_types hb7 hW7.ptr (by decide)
      clear hW7 hb7 f7
      go_wp2_with (at_builtin; refine wpList_pushR rt_id rfl _ _ rfl w.heap.size (.slice none 0 0) [] rfl (World.ownsRow_nil _ _ _ _) hbs 39 0 1 _ rfl rfl (by simp) ?_; intro v' w8 hO8 hg8 hat8; obtain ⟨oa, oc, rfl⟩ : ∃ oa oc, v' = .slice oa 1 oc := owns_form hO8; have e1 : w8.cell? ⟨q, 4, none⟩ = some (.slice none 0 0) := (hg8.cell_far _ (by simp; omega) (by simp [Value.ownBlock])).trans ((cellA w7 _ q 4 lq).trans c4); have e2 : w8.frozen? ⟨q, 4, none⟩ = false := (hg8.frozen_far _ (by simp; omega) (by simp [Value.ownBlock])).trans ((World.frozen?_of_block (alloc_lt w7 _ q lq)).trans (cf 4)))
      have hq8 : w8.heap[q]? = some (Obj.cells #[.pointer (some ⟨p, 0, none⟩), .slice none 0 0, .slice none 0 0, .slice (some ⟨b, 0, none⟩) 1 1, .slice none 0 0] 93 (0, 0)) := (hg8.block q (by simp; omega) (by simp [Value.ownBlock])).trans ((alloc_lt w7 _ q lq).trans HW7.out.ptr)
      have lb7 := lt_of_block HB7.out
      have hb8 : w8.heap[b]? = some (Obj.cells #[.int .i64 0] 39 (0, 0)) := (hg8.block b (by simp; omega) (by simp [Value.ownBlock])).trans ((alloc_lt w7 _ b lb7).trans HB7.out)
      have hvq : (Value.slice oa 1 oc).ownBlock ≠ some q := by
        intro e
        obtain ⟨cur, hc⟩ := owns_block hO8 e
        exact ne_of_types hc hq8 (by decide) rfl
      have HN := Lib.hid (show Wd w (w8.setCell ⟨q, 4, none⟩ (.slice oa 1 oc)) q p w.heap.size (.slice none 0 0) (.slice none 0 0) (.slice (some ⟨b, 0, none⟩) 1 1) (.slice oa 1 oc) [] from
        HW7.out.stored ((((Fr.refl (fun k => k = q) w7).alloc _).grown hg8 (fun k hk => by simp [Value.ownBlock] at hk)).setCell _ _ (fun _ => rfl)) (setCell_block hq8 4 _))
      have HB8 := Lib.hid ((setCell_other ⟨q, 4, none⟩ (.slice oa 1 oc) hbq).trans hb8)
      have HO8 := Lib.hid (owns_set_other hO8 ⟨q, 4, none⟩ (.slice oa 1 oc) hvq)
      clear hq8 hb8 hO8 hg8 hat8
      go_roundw
      case rel => exact ⟨1, (.slice oa 1 oc), by omega, rfl, HN.out, HB8.out, fun h => by omega, HO8.out⟩
      case measure => simp [intOf]
    · obtain rfl : k = 1 := by omega
      have HBG := Lib.hid (fun W (hf : Fr0 wr W) => (⟨q, p, w.heap.size, _, vi, rfl, hW.kept0 hf, ⟨b, rfl, hf.kept hb⟩, hf.owns hown⟩ : BegN w (.returned (.tuple #[.pointer (some ⟨q, 0, none⟩), .bool true])) W))
      clear hW hb hvi hown h0 hk
      go_wp2_with fail
      refine (st_New100 _).mono ?_
      rintro e w10 ⟨rfl, f10, hS10, hz10⟩
      have HF10 := Lib.hid f10
      have CL := Lib.hid (st_Letter hS10 97 (by omega) (by omega) (by simp) (by simp))
      have HS10 := Lib.hid hS10
      have LZ := Lib.hid hz10
      clear f10 hS10 hz10
      go_wp2_with fail
      refine CL.out.mono ?_
      rintro e w11 ⟨rfl, hst⟩
      obtain ⟨r1, r2⟩ := Sto.step (B := wr.heap.size) HS10.out (by omega) (by omega) (fun k hk => by simp [Value.ownBlock] at hk) (by have := LZ.out; omega) hst
      have hR : Room wr.heap.size w11 (wr.heap.size + 1) wr.heap.size 100 (addL [] (letterEnt 97)) (8 * (0 : Int).toNat + 3 * (3 * 1 + 1)) := ⟨r1, by have := HF10.out.size; have := r2.size; omega, O2.out, O3.out, by rw [O4.out]; decide, by rw [O4.out]; decide⟩
      have CA := Lib.hid (edit_Apply_ins (at_ := 1) 1 hR O1.out O1.out (by omega) (by simp) (by simp) (by simp [lst]))
      have HK := Lib.hid r2
      clear r1 r2 hst CL HS10 hR
      generalize addI [] (letterEnt 97) = ida at *
      generalize wr.heap.size + 1 = px at *
      go_wp2_with fail
      refine CA.out.mono ?_
      rintro e w12 ⟨L2, id2, d2, k2, rfl, hS2, hK2, g2, b2, -⟩
      have hl2 := b2.len g2.dok g2.sok
      have HW2 : Hid ((entAt L2 id2).wt.len = 2) := hl2.symm
      have CW := Lib.hid (sto_Weight hS2 id2 b2.known)
      have HK2 := Lib.hid (HK.out.trans hK2)
      clear hS2 hK2 g2 b2 hl2 CA HK
      rw [HW2.out] at CW
      generalize (entAt L2 id2).wt = x at *
      go_wp2_with fail
      refine CW.out.mono ?_
      rintro e w13 ⟨rfl, f13⟩
      have HX := Lib.hid (HBG.out _ (((Kp.fr0 HF10.out HK2.out (Nat.le_refl _)).trans f13).alloc (.cells #[.int .i64 2, .int .i64 x.lines, .int .i64 x.head, .int .i64 x.tail, .int .u64 x.val, .int .u64 x.scale] 157 (0, 0))))
      clear HBG HF10 HK2 f13 CW
      go_wp2_with fail
      go_quiet (fail)
      go_wp2_with fail
      go_ret2
      exact BegN.drewN HX.out _

end Go.Proofs.YtclpndigmidjkaaGreat

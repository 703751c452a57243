/- The walks of rule.Refs and of the store's reach. -/
import Derived.Test.YtbhidkmhlfggfaaGreatDoorQSt5
import Derived.Test.YtbhidkmhlfggfaaGreatDoorQMap
import Derived.Test.YtbhidkmhlfggfaaGreatDoorQSet
import Derived.Test.YtbhidkmhlfggfaaGreatDoorSort
import Derived.Sort.OwnSortedInts
import Derived.Deep.LoopGhost
import Derived.Deep.RegionHeld3
import Derived.Deep.RegionLaw
import Derived.Lib.SlBytesConst
import Derived.Test.YtbhidkmhlfggfaaGreatDoorQErr
import Derived.Laws.StructEq
set_option linter.unusedSimpArgs false
set_option linter.unusedVariables false
namespace Go.Proofs.YtbhidkmhlfggfaaGreatDoor
open Go.RowKit
def srt (xs : List Int) : List Int := xs.mergeSort fun x y => decide (x ≤ y)
theorem srt_perm (xs : List Int) : (srt xs).Perm xs := List.mergeSort_perm _ _
theorem srt_le (xs : List Int) : (srt xs).Pairwise (· ≤ ·) := by
 have h := List.pairwise_mergeSort (le := fun x y : Int => decide (x ≤ y)) (fun a b c h1 h2 => by simp at *; omega) (fun a b => by simp; omega) xs
 exact h.imp (fun h => by simpa using h)
theorem srt_len (xs : List Int) : (srt xs).length = xs.length := (srt_perm xs).length_eq
theorem sort_ids {w0 w : World} {v : Value} {xs : List Int} (h : OwnI 28 w0 w v xs) (h1 : 1 ≤ xs.length) (h2 : xs.length ≤ 1048576) :
    Calls Tryz.prog 71 #[v] w fun e w' => e = .returned (.tuple #[]) ∧ OwnI 28 w0 w' v (srt xs) := by
 rcases h.row.2 with ⟨_, e2⟩ | ⟨g, cap, cur, rfl, hb, hg, k1, k2, k3, k4⟩
 · omega
 · rw [Nat.mul_one] at k4
   refine (Tryz.slices_Sort_ids g 0 cap xs w (holds_of_blockI hg k4) (lt_of_block hg) (by omega)).mono ?_
   rintro e w' ⟨rfl, n, os, rfl⟩
   refine ⟨rfl, ?_, ?_⟩
   · have := ownsRow_sortedI (w := w) (n := n) (os := os) (ts := srt xs) (srt_len xs) hb hg k1 k2 k3
     rw [srt_len]
     exact this
   · exact Fr.grown h.fr (grownBy_sortedI (srt xs).toArray) (fun k hk hlt => by cases hk; omega)
def RfPost (w : World) (rs : List Int) (e : Ending) (w' : World) : Prop := ∃ a cap, e = .returned (.slice a rs.length cap) ∧ IntsAt w' a rs ∧ Fr0 w w' ∧ ∀ ad, a = some ad → w.heap.size ≤ ad.block ∧ ad.block < w'.heap.size
theorem idsAt2 (w : World) (x y : Int) : IntsAt (w.alloc (.cells #[.int .i64 x, .int .i64 y] 28 (0, 0))) (some ⟨w.heap.size, 0, none⟩) [x, y] := by
 intro i hi
 refine ⟨_, _, _, _, _, rfl, alloc_at _ _ _ rfl, by decide, by decide, ?_⟩
 match i, hi with
 | 0, _ => rfl
 | 1, _ => rfl
theorem idsAt1 (w : World) (x : Int) : IntsAt (w.alloc (.cells #[.int .i64 x] 28 (0, 0))) (some ⟨w.heap.size, 0, none⟩) [x] := by
 intro i hi
 refine ⟨_, _, _, _, _, rfl, alloc_at _ _ _ rfl, by decide, by decide, ?_⟩
 match i, hi with
 | 0, _ => rfl
set_option maxRecDepth 100000 in
set_option maxHeartbeats 400000 in
theorem rule_Refs (k b l r t : Int) (w : World) :
    Calls Tryz.prog 70 #[.agg #[.int .i64 k, .int .u8 b, .int .i64 l, .int .i64 r, .int .i64 t]] w (RfPost w (refsR ⟨k, b, l, r, t⟩)) := by
 by_cases h2 : k = 2
 · subst h2
   go_enter Tryz.func70, Tryz.ntmps70
   go_wp2_with fail
   go_ret
   have e : (w.alloc (.cells #[.int .i64 2, .int .u8 b, .int .i64 l, .int .i64 r, .int .i64 t] 132 (0, 0))).heap.size = w.heap.size + 1 := by simp
   refine ⟨some ⟨w.heap.size + 1, 0, none⟩, 2, rfl, ?_, ((Fr0.refl w).alloc _).alloc _, fun ad h => by cases h; exact ⟨Nat.le_succ _, by simp⟩⟩
   have := idsAt2 (w.alloc (.cells #[.int .i64 2, .int .u8 b, .int .i64 l, .int .i64 r, .int .i64 t] 132 (0, 0))) l r
   rw [e] at this
   exact this
 · have d2 : (k == 2) = false := by simpa using h2
   by_cases h3 : k = 3
   · subst h3
     go_enter Tryz.func70, Tryz.ntmps70
     go_wp2_with fail
     go_ret
     have e : (w.alloc (.cells #[.int .i64 3, .int .u8 b, .int .i64 l, .int .i64 r, .int .i64 t] 132 (0, 0))).heap.size = w.heap.size + 1 := by simp
     refine ⟨some ⟨w.heap.size + 1, 0, none⟩, 1, rfl, ?_, ((Fr0.refl w).alloc _).alloc _, fun ad h => by cases h; exact ⟨Nat.le_succ _, by simp⟩⟩
     have := idsAt1 (w.alloc (.cells #[.int .i64 3, .int .u8 b, .int .i64 l, .int .i64 r, .int .i64 t] 132 (0, 0))) l
     rw [e] at this
     exact this
   · have d3 : (k == 3) = false := by simpa using h3
     have hr : refsR ⟨k, b, l, r, t⟩ = [] := by unfold refsR; rw [if_neg h2, if_neg h3]
     rw [hr]
     go_enter Tryz.func70, Tryz.ntmps70
     go_wp2_with fail
     go_ret
     exact ⟨none, 0, rfl, IntsAt.nil _ _, (Fr0.refl w).alloc _, fun ad h => by cases h⟩
theorem refsR_len (r : Rl) : (refsR r).length ≤ 2 := by
 unfold refsR
 split
 · simp
 · split <;> simp
structure RchR (w wr : World) (M : Nat) (v : Value) (ids : List Int) : Prop where
 own : OwnI 28 w wr v ids
 mp : wr.heap[M]? = some (Obj.map (idEntries 0 ids).toArray ids.length)
 new : w.heap.size ≤ M
theorem RchR.kept0 {w wr w' : World} {M : Nat} {v : Value} {ids : List Int} (h : RchR w wr M v ids) (hf : Fr0 wr w') : RchR w w' M v ids := ⟨h.own.kept0 hf, hf.kept h.mp, h.new⟩
structure RIn (w wr : World) (M : Nat) (v : Value) (ids : List Int) (a : Option Addr) (rs : List Int) : Prop where
 r : RchR w wr M v ids
 ints : IntsAt wr a rs
 apart : ∀ ad, a = some ad → ad.block < wr.heap.size ∧ v.ownBlock ≠ some ad.block
theorem RchR.marked {w wr : World} {M : Nat} {v : Value} {ids : List Int} (h : RchR w wr M v ids) (o : Obj) : OwnI 28 w (setB wr M o) v ids := by
 refine ⟨?_, Fr.setB h.own.fr M o (fun hl => by have := h.new; omega)⟩
 have hf : Fr (fun k => k = M) wr (setB wr M o) := Fr.setB (Fr.refl _ wr) M o (fun _ => rfl)
 refine hf.owns h.own.row (fun k hk e => ?_)
 subst e
 obtain ⟨cur, hc⟩ := owns_block h.own.row hk
 rw [h.mp] at hc
 cases hc
theorem RIn.push {w wr w1 : World} {M : Nat} {v v' : Value} {ids : List Int} {a : Option Addr} {rs : List Int} {x : Int} {T' : TypeId} (h : RIn w wr M v ids a rs)
    (hO1 : OwnI 28 w w1 v' (ids ++ [x])) (hg : ((setB wr M (Obj.map (idEntries 0 (ids ++ [x])).toArray (ids ++ [x]).length)).alloc (.cells #[.int .i64 x] T' (0, 0))).grownBy w1 v.ownBlock)
    (hat : v'.ownBlock = v.ownBlock ∨ v'.ownBlock = some ((setB wr M (Obj.map (idEntries 0 (ids ++ [x])).toArray (ids ++ [x]).length)).heap.size + 1)) : RIn w w1 M v' (ids ++ [x]) a rs := by
 have lM := lt_of_block h.r.mp
 have hs : (setB wr M (Obj.map (idEntries 0 (ids ++ [x])).toArray (ids ++ [x]).length)).heap[M]? = some (Obj.map (idEntries 0 (ids ++ [x])).toArray (ids ++ [x]).length) := setB_same lM
 have hO := h.r.marked (Obj.map (idEntries 0 (ids ++ [x])).toArray (ids ++ [x]).length)
 have hsz : wr.heap.size ≤ w1.heap.size := by have := hg.size; simp [setB_size] at this; omega
 rw [setB_size] at hat
 have key : ∀ b, b < wr.heap.size → b ≠ M → v.ownBlock ≠ some b → w1.heap[b]? = wr.heap[b]? := fun b hb hM hv =>
  (hg.block b (by simp [setB_size]; omega) (fun e => hv e.symm)).trans ((alloc_lt _ _ _ (by rw [setB_size]; exact hb)).trans (setB_other hM))
 refine ⟨⟨hO1, ?_, h.r.new⟩, ?_, ?_⟩
 · refine (hg.block M (by simp [setB_size]; omega) (fun e => ?_)).trans ((alloc_lt _ _ _ (by rw [setB_size]; exact lM)).trans hs)
   obtain ⟨cur, hc⟩ := owns_block hO.row e.symm
   rw [hs] at hc
   cases hc
 · intro i hi
   obtain ⟨b, off, cs, t, fr, rfl, h2, h3⟩ := h.ints i hi
   have := h.apart _ rfl
   exact ⟨b, off, cs, t, fr, rfl, (key b this.1 (fun e => by subst e; rw [h.r.mp] at h2; cases h2) this.2).trans h2, h3⟩
 · intro ad had
   obtain ⟨h1, h2⟩ := h.apart ad had
   refine ⟨by omega, fun e => ?_⟩
   rcases hat with e2 | e2
   · exact h2 (e2 ▸ e)
   · rw [e2] at e; simp at e; omega
def RePost (w : World) (L : List Ent) (id : Int) (e : Ending) (w' : World) : Prop := ∃ out v, e = .returned v ∧ OwnI 28 w w' v out ∧ Outs L id out
set_option maxRecDepth 100000 in
set_option maxHeartbeats 2000000 in
theorem st_reach {B : Nat} {w : World} {p mb : Nat} {most : Int} {L : List Ent} (hS : Sto B w p mb most L) (hD : DOk L) (hBig : L.length ≤ 1000000) (id : Int) (hk : isKnown L id) (h0 : 1 ≤ id) :
    Calls Tryz.prog 55 #[.pointer (some ⟨p, 0, none⟩), .int .i64 id] w (RePost w L id) := by
 have hmm := @run_makeMap Tryz.prog
 have e0 : (id == 0) = false := by simp; omega
 have hm0 : ((w.alloc (.cells #[.int .i64 id] 28 (0, 0))).alloc (.map #[] 0)).heap[w.heap.size + 1]? = some (Obj.map (idEntries 0 []).toArray ([] : List Int).length) := alloc2_1 _ _ _
 have hup := run_update_id (xs := []) id _ hm0 (by simp)
 have hr0 : RchR w (setB ((w.alloc (.cells #[.int .i64 id] 28 (0, 0))).alloc (.map #[] 0)) (w.heap.size + 1) (.map (idEntries 0 ([] ++ [id])).toArray ([] ++ [id]).length)) (w.heap.size + 1) (.slice (some ⟨w.heap.size, 0, none⟩) 1 1) [id] := by
  have hf : Fr0 w (setB ((w.alloc (.cells #[.int .i64 id] 28 (0, 0))).alloc (.map #[] 0)) (w.heap.size + 1) (.map (idEntries 0 ([] ++ [id])).toArray ([] ++ [id]).length)) := Fr.setB (((Fr0.refl w).alloc _).alloc _) _ _ (fun h => by omega)
  refine ⟨⟨⟨rfl, .inr ⟨w.heap.size, 1, #[.int .i64 id], rfl, Nat.le_refl _, ?_, Nat.le_refl _, by decide, rfl, rfl⟩⟩, hf⟩, setB_same (by simp), by omega⟩
  rw [setB_other (by omega)]
  exact alloc2_0 _ _ _
 generalize setB ((w.alloc (.cells #[.int .i64 id] 28 (0, 0))).alloc (.map #[] 0)) (w.heap.size + 1) (.map (idEntries 0 ([] ++ [id])).toArray ([] ++ [id]).length) = W1 at *
 have HR0 := Lib.hid hr0
 have HS := Lib.hid hS
 have HDD := Lib.hid hD
 clear hS hD hr0 hm0
 go_enter Tryz.func55, Tryz.ntmps55
 go_wp2_with fail
 clear hup hmm
 generalize w.heap.size + 1 = M at *
 go_loopg [5, 7] (id.toNat + 1) (fun gk v i wr => ∃ (k : Nat) (ids : List Int), k + gk = id.toNat + 1 ∧ k ≤ ids.length ∧ i = .int .i64 k ∧ (∃ a cap, v = .slice a ids.length cap) ∧ RchR w wr M v ids ∧ Clo L id ids k)
 case atStart => exact ⟨0, [id], by omega, by omega, rfl, ⟨_, _, rfl⟩, HR0.out, Clo.start L h0⟩
 case round =>
  obtain ⟨k, ids, hgk, hkl, rfl, ⟨va, vcap, rfl⟩, hr, hc⟩ := hrel
  clear HR0
  have hlen := hc.len
  have hkL := hk.2
  by_cases hlt : k < ids.length
  · obtain ⟨wo, hwo⟩ : ∃ wo : World, wo = wr := ⟨_, rfl⟩
    subst hwo
    obtain ⟨ga, gcap, hgv, hI⟩ := ints_of_own hr.own.row (by decide) (by decide)
    cases hgv
    obtain ⟨b, off, rfl, lb, hcell⟩ := hI.cell k hlt
    have hrng := hc.rng ids[k] (List.getElem_mem _)
    obtain ⟨n, hn⟩ : ∃ n : Nat, ids[k] = (n : Int) + 1 := ⟨(ids[k] - 1).toNat, by omega⟩
    have hnL : n < L.length := by omega
    have hSo := HS.out.kept0 hr.own.fr
    obtain ⟨sv, hSS, _⟩ := hSo
    obtain ⟨eb, ecap, rfl, hec⟩ := owned_ent hSS (List.getElem?_eq_getElem hnL)
    have cp := (cells3 hSS.ptr).2.1
    have lp := lt_of_block hSS.ptr
    have q0 := hec 0 _ rfl
    have q1 := hec 1 _ rfl
    have q2 := hec 2 _ rfl
    have q3 := hec 3 _ rfl
    have q4 := hec 4 _ rfl
    rw [Nat.add_zero] at q0
    have leb := World.block_lt_of_cell? wo _ q0
    have CR := Lib.hid (fun W => rule_Refs L[n].rule.kind L[n].rule.letter L[n].rule.left L[n].rule.right L[n].rule.times W)
    have HRS : Hid (refsR (entAt L ids[k]).rule = refsR ⟨L[n].rule.kind, L[n].rule.letter, L[n].rule.left, L[n].rule.right, L[n].rule.times⟩) := by
     show _ = _
     rw [hn, entAt_succ L n hnL]
    have HRB : Hid (∀ y ∈ refsR ⟨L[n].rule.kind, L[n].rule.letter, L[n].rule.left, L[n].rule.right, L[n].rule.times⟩, 1 ≤ y ∧ y ≤ id) := by
     show ∀ y ∈ _, _
     intro y hy
     unfold refsR at hy
     rcases HDD.out n hnL with ⟨g, _⟩ | ⟨g, g2, _⟩ | ⟨g, g2, _⟩
     · simp [g] at hy
     · simp [g] at hy
       omega
     · simp [g] at hy
       omega
    have hrl : (refsR ⟨L[n].rule.kind, L[n].rule.letter, L[n].rule.left, L[n].rule.right, L[n].rule.times⟩).length ≤ 2 := refsR_len _
    have HNX : Hid (∃ h : k < ids.length, ids[k] = (n : Int) + 1) := ⟨hlt, hn⟩
    rw [hn] at hcell HRS
    have HR := Lib.hid hr
    have HC := Lib.hid hc
    have hIb : ids.length ≤ 1000000 := by omega
    have e1 := IntWalk.i64_in (n : Int) (by omega)
    have hnI : (n : Int) < (L.length : Int) := by omega
    clear hec hSS hr hc hI
    generalize refsR ⟨L[n].rule.kind, L[n].rule.letter, L[n].rule.left, L[n].rule.right, L[n].rule.times⟩ = rs at *
    generalize L[n] = x at *
    go_upto_region 8 with fail
    go_cut [35, 36, 37] (fun s35 s36 s37 wx => ∃ a cap, s35 = .slice a rs.length cap ∧ s36 = .int .i64 (rs.length : Nat) ∧ s37 = .int .i64 0 ∧ IntsAt wx a rs ∧ Fr0 wo wx ∧ ∀ ad, a = some ad → wo.heap.size ≤ ad.block ∧ ad.block < wx.heap.size)
    case first =>
     go_region_held3 (fun w' => w'.cell? ⟨p, 1, none⟩ = some (.slice (some ⟨eb, 0, none⟩) L.length ecap) ∧ w'.cell? ⟨b, off + k, none⟩ = some (.int .i64 ((n : Int) + 1)) ∧ w'.cell? ⟨eb, n * 13, none⟩ = some (.int .i64 x.rule.kind) ∧
         w'.cell? ⟨eb, n * 13 + 1, none⟩ = some (.int .u8 x.rule.letter) ∧ w'.cell? ⟨eb, n * 13 + 2, none⟩ = some (.int .i64 x.rule.left) ∧ w'.cell? ⟨eb, n * 13 + 3, none⟩ = some (.int .i64 x.rule.right) ∧ w'.cell? ⟨eb, n * 13 + 4, none⟩ = some (.int .i64 x.rule.times))
      (first | (go_keep; done) | ((try dsimp only); (repeat' apply And.intro); all_goals (first | (go_keep; done) | (go_split_ands; rw [hf3.cell _ _ (by simp; omega)]; assumption))))
      (first | (go_at_call 70; refine (CR.out _).mono ?_; rintro e w3 ⟨ra, rcap, rfl, hI3, hf3, hnew3⟩))
     all_goals
      go_wp2_with fail
      go_meet
      exact ⟨_, _, rfl, rfl, rfl, hI3, (Fr0.refl wo).drew.trans hf3, hnew3⟩
    case rest =>
     obtain ⟨ra, rcap, rfl, rfl, rfl, hI2, hf2, hnew⟩ := hcut
     have hr2 : RIn w wc M (.slice (some ⟨b, off, none⟩) ids.length vcap) ids ra rs := ⟨HR.out.kept0 hf2, hI2, fun ad had => ⟨(hnew ad had).2, fun e => by have h1 := (HR.out.own.row.lt _ e).2; have h2 := (hnew ad had).1; omega⟩⟩
     have HR2 := Lib.hid hr2
     clear hr2 hI2 hf2 hnew CR q0 q1 q2 q3 q4 cp hcell e1 hnI
     go_wp2_with fail
     go_loopw [5, 37] (fun v i wx => ∃ (m : Nat) (js : List Int), m ≤ rs.length ∧ i = .int .i64 m ∧ (∃ a cap, v = .slice a js.length cap) ∧ RIn w wx M v js ra rs ∧ CloIn L id js k rs m ∧ ∃ h : k < js.length, js[k] = (n : Int) + 1) (fun _ i _ => rs.length - (intOf i).toNat)
     case atStart => exact ⟨0, ids, Nat.zero_le _, rfl, ⟨_, _, rfl⟩, HR2.out, ⟨HC.out, fun y hy => by simp at hy⟩, HNX.out⟩
     case round =>
      obtain ⟨m, js, hm, rfl, ⟨ja, jcap, rfl⟩, hr3, hc3, hjk⟩ := hrel
      by_cases hlt2 : m < rs.length
      · obtain ⟨rb, roff, rfl, lrb, hcel⟩ := hr3.ints.cell m hlt2
        have hlen3 := hc3.clo.len
        have hjl : js.length ≤ 1000000 := by omega
        have hy := HRB.out rs[m] (List.getElem_mem _)
        have HJK := Lib.hid hjk
        have HS1 := Lib.hid (hc3.skip hlt2)
        have HS2 := Lib.hid (fun h => hc3.add (by obtain ⟨h, _⟩ := HJK.out; exact h) (by obtain ⟨_, e⟩ := HJK.out; rw [e]; exact HRS.out) hlt2 h hy)
        have lM := lt_of_block hr3.r.mp
        have HR3 := Lib.hid hr3
        clear hc3 hjk hy hr3
        generalize rs[m] = y at *
        have hlk := run_lookup_id y wr HR3.out.r.mp
        by_cases hx : y ∈ js
        · simp only [hx, decide_true] at hlk
          go_wp2_with fail
          go_roundw
          case rel => exact ⟨m + 1, js, by omega, by go_num, ⟨_, _, rfl⟩, HR3.out, HS1.out hx, HJK.out⟩
          case measure => simp [intOf]; omega
        · simp only [hx, decide_false] at hlk
          have hup := run_update_id y wr HR3.out.r.mp hx
          have hO := HR3.out.r.marked (Obj.map (idEntries 0 (js ++ [y])).toArray (js ++ [y]).length)
          have HP := Lib.hid (fun v' w1 h1 h2 h3 => HR3.out.push (x := y) (v' := v') (w1 := w1) (T' := 28) h1 h2 h3)
          generalize setB wr M (Obj.map (idEntries 0 (js ++ [y])).toArray (js ++ [y]).length) = W3 at *
          go_wp2_with (at_builtin; refine wpList_push rt_id rfl _ _ rfl _ _ rfl hO 28 y 1 _ rfl rfl hjl ?_; intro v' w4 hO4 hg4 hat4)
          go_roundw
          case rel => exact ⟨m + 1, js ++ [y], by omega, by go_num, hO4.form, HP.out v' w4 hO4 hg4 hat4, HS2.out hx, by obtain ⟨h, e⟩ := HJK.out; exact ⟨by simp; omega, by rw [List.getElem_append_left h]; exact e⟩⟩
          case measure => simp [intOf]; omega
      · obtain ⟨hjl, hjk⟩ := hjk
        have hnx := hc3.next hjl (by rw [hjk]; exact HRS.out) (by omega)
        have HR4 := Lib.hid hr3.r
        have HC4 := Lib.hid hnx
        clear hr3 hc3 hnx
        go_wp2_with fail
        go_roundg (gk - 1)
        case measure => omega
        case rel => exact ⟨k + 1, js, by omega, by omega, by go_num, ⟨_, _, rfl⟩, HR4.out, HC4.out⟩
  · have hke : k = ids.length := by omega
    have hpos := List.length_pos_of_mem hc.mem
    have CS := Lib.hid (sort_ids hr.own hpos (by omega))
    rw [hke] at hc
    have HOut := Lib.hid (hc.outs (srt_perm ids) (srt_le ids))
    clear hr hc
    go_wp2_with fail
    refine CS.out.mono ?_
    rintro e w4 ⟨rfl, hO4⟩
    go_wp2_with fail
    go_ret
    exact ⟨srt ids, _, rfl, hO4, HOut.out⟩
end Go.Proofs.YtbhidkmhlfggfaaGreatDoor
/- The walk of a store's Export. -/
set_option linter.unusedSimpArgs false
set_option linter.unusedVariables false
namespace Go.Proofs.YtbhidkmhlfggfaaGreatDoor
open Go.RowKit
theorem info_rule : (Tryz.prog.info? 132).map (fun i => (i.zero, i.size, i.bytes)) = some (some (.agg #[.int .i64 0, .int .u8 0, .int .i64 0, .int .i64 0, .int .i64 0]), 5, 40) := by kernel_rfl
theorem rt_rule : RT 115 132 5 40 := by
 obtain ⟨i, h1, h2, h3, h4⟩ := info_parts info_rule
 exact ⟨by omega, i, _, Tryz.underlying115, h1, h2, h3, h4, rfl⟩
@[go_sem] theorem run_makeMap_hint (n : Int) (w : World) : (Instr.makeMap 95 (some (.int .i64 n))).run Tryz.prog w = .ok (.map (some w.heap.size)) (w.alloc (.map #[] 0)) := by kernel_rfl
def ruleCells (rs : List Rl) : List Value := rs.flatMap Rl.vals
theorem ruleCells_snoc (rs : List Rl) (r : Rl) : ruleCells (rs ++ [r]) = ruleCells rs ++ [.int .i64 r.kind, .int .u8 r.letter, .int .i64 r.left, .int .i64 r.right, .int .i64 r.times] := by simp [ruleCells, Rl.vals]
structure OwnR (w0 w : World) (v : Value) (rs : List Rl) : Prop where
 row : w.ownsRow w0.heap.size 132 5 v rs.length (ruleCells rs)
 fr : Fr0 w0 w
theorem OwnR.kept0 {w0 w w' : World} {v : Value} {xs : List Rl} (h : OwnR w0 w v xs) (hf : Fr0 w w') : OwnR w0 w' v xs := ⟨hf.owns h.row, h.fr.trans hf⟩
theorem OwnR.form {w0 w : World} {v : Value} {xs : List Rl} (h : OwnR w0 w v xs) : ∃ a cap, v = .slice a xs.length cap := owns_form h.row
theorem OwnR.ge {w0 w : World} {v : Value} {xs : List Rl} (h : OwnR w0 w v xs) (k : Nat) (hk : v.ownBlock = some k) : w0.heap.size ≤ k := (h.row.lt k hk).1
theorem src_cells (w : World) (cs : Array Value) (T : TypeId) (m c : Nat) : SrcAt (w.alloc (.cells cs T (0, 0))) (.slice (some ⟨w.heap.size, 0, none⟩) m c) m cs.toList := by
 refine .inr ⟨_, c, rfl, fun j u hj => ?_⟩
 have h := World.news_of_block (cs := cs) (t := T) (fr := (0, 0)) (heap_alloc_new w (.cells cs T (0, 0)))
 exact h j u hj
def expK (L : List Ent) (out : List Int) (k : Nat) : List Rl := (out.take k).map fun x => renum out (entAt L x).rule
theorem expK_len (L : List Ent) (out : List Int) {k : Nat} (h : k ≤ out.length) : (expK L out k).length = k := by rw [expK, List.length_map, List.length_take]; omega
theorem expK_succ (L : List Ent) (out : List Int) {k : Nat} (h : k < out.length) : expK L out (k + 1) = expK L out k ++ [renum out (entAt L out[k]).rule] := by
 rw [expK, List.take_succ_eq_append_getElem h, List.map_append]; rfl
theorem expK_all (L : List Ent) (out : List Int) : expK L out out.length = expo L out := by rw [expK, List.take_length]; rfl
structure ExR (w wr : World) (M : Nat) (a : Option Addr) (v : Value) (out : List Int) (k : Nat) (rs : List Rl) : Prop where
 own : OwnR w wr v rs
 mp : wr.heap[M]? = some (Obj.map (ppEntries 0 (nums 0 (out.take k))).toArray (nums 0 (out.take k)).length)
 new : w.heap.size ≤ M
 ints : IntsAt wr a out
 apart : ∀ ad, a = some ad → v.ownBlock ≠ some ad.block ∧ w.heap.size ≤ ad.block ∧ ad.block < wr.heap.size
def ExPost (w : World) (L : List Ent) (id : Int) (e : Ending) (w' : World) : Prop :=
 ∃ rs v, e = .returned (.tuple #[v, .nilIface]) ∧ OwnR w w' v rs ∧ ((id = 0 ∧ rs = []) ∨ (id ≠ 0 ∧ ∃ out, Outs L id out ∧ rs = expo L out))
def ReAll (w : World) (L : List Ent) (id : Int) (e : Ending) (w' : World) : Prop := ∃ out v, e = .returned v ∧ OwnI 28 w w' v out ∧ ((id = 0 ∧ out = []) ∨ (id ≠ 0 ∧ Outs L id out))
set_option maxRecDepth 100000 in
set_option maxHeartbeats 1000000 in
theorem st_reach_all {B : Nat} {w : World} {p mb : Nat} {most : Int} {L : List Ent} (hS : Sto B w p mb most L) (hD : DOk L) (hBig : L.length ≤ 1000000) (id : Int) (hk : isKnown L id) :
    Calls Tryz.prog 55 #[.pointer (some ⟨p, 0, none⟩), .int .i64 id] w (ReAll w L id) := by
 by_cases h0 : id = 0
 · subst h0
   go_enter Tryz.func55, Tryz.ntmps55
   go_wp2_with fail
   go_ret
   exact ⟨[], _, rfl, OwnI.nil _ (Fr0.refl w), .inl ⟨rfl, rfl⟩⟩
 · refine (st_reach hS hD hBig id hk (by have := hk.1; omega)).mono ?_
   rintro e w' ⟨out, v, rfl, h1, h2⟩
   exact ⟨out, v, rfl, h1, .inr ⟨h0, h2⟩⟩
theorem ExR.mark {w wr : World} {M : Nat} {a : Option Addr} {v : Value} {out : List Int} {k : Nat} {rs : List Rl} (h : ExR w wr M a v out k rs) (o : Obj) :
    w.heap.size ≤ M ∧ M < wr.heap.size ∧ Fr0 w (setB wr M o) ∧ (setB wr M o).ownsRow w.heap.size 132 5 v rs.length (ruleCells rs) ∧ IntsAt (setB wr M o) a out := by
 have hf : Fr (fun k => k = M) wr (setB wr M o) := Fr.setB (Fr.refl _ wr) M o (fun _ => rfl)
 refine ⟨h.new, lt_of_block h.mp, Fr.setB h.own.fr M o (fun hl => by have := h.new; omega), hf.owns h.own.row (fun k hk e => ?_), fun i hi => ?_⟩
 · subst e
   obtain ⟨cur, hc⟩ := owns_block h.own.row hk
   rw [h.mp] at hc
   cases hc
 · obtain ⟨b, off, cs, t, fr, h1, h2, h3⟩ := h.ints i hi
   exact ⟨b, off, cs, t, fr, h1, (setB_other (fun e => by subst e; rw [h.mp] at h2; cases h2)).trans h2, h3⟩
theorem ExR.next {w wc w4 : World} {M : Nat} {a : Option Addr} {v v' : Value} {out : List Int} {k : Nat} {rs : List Rl} {r : Rl} {o : Obj} (hF : Fr0 w wc) (hown : wc.ownsRow w.heap.size 132 5 v rs.length (ruleCells rs))
    (hm : wc.heap[M]? = some (Obj.map (ppEntries 0 (nums 0 (out.take (k + 1)))).toArray (nums 0 (out.take (k + 1))).length)) (hM : w.heap.size ≤ M) (hI : IntsAt wc a out) (hap : ∀ ad, a = some ad → v.ownBlock ≠ some ad.block ∧ w.heap.size ≤ ad.block ∧ ad.block < wc.heap.size)
    (q1 : w4.ownsRow w.heap.size 132 5 v' (rs.length + 1) (ruleCells rs ++ [.int .i64 r.kind, .int .u8 r.letter, .int .i64 r.left, .int .i64 r.right, .int .i64 r.times])) (q2 : (wc.alloc o).grownBy w4 v.ownBlock) (q3 : v'.ownBlock = v.ownBlock ∨ v'.ownBlock = some (wc.heap.size + 1)) : ExR w w4 M a v' out (k + 1) (rs ++ [r]) := by
 have key : ∀ b, b < wc.heap.size → v.ownBlock ≠ some b → w4.heap[b]? = wc.heap[b]? := fun b hb hv => (q2.block b (by simp; omega) (fun e => hv e.symm)).trans (alloc_lt _ _ _ hb)
 have hsz := q2.size
 simp at hsz
 refine ⟨⟨by rw [ruleCells_snoc]; simpa using q1, Fr.grown (Fr0.alloc hF o) q2 (fun j hj hlt => by have := (hown.lt j hj).1; omega)⟩, ?_, hM, fun i hi => ?_, fun ad had => ?_⟩
 · refine (key M (lt_of_block hm) (fun e => ?_)).trans hm
   obtain ⟨cur, hc⟩ := owns_block hown e
   rw [hm] at hc
   cases hc
 · obtain ⟨b, off, cs, t, fr, rfl, h2, h3⟩ := hI i hi
   exact ⟨b, off, cs, t, fr, rfl, (key b (lt_of_block h2) (hap _ rfl).1).trans h2, h3⟩
 · obtain ⟨h1, h2, h3⟩ := hap ad had
   refine ⟨fun e => ?_, h2, by omega⟩
   rcases q3 with e2 | e2
   · exact h1 (e2 ▸ e)
   · rw [e2] at e; simp at e; omega
set_option maxRecDepth 100000 in
set_option maxHeartbeats 2000000 in
theorem st_Export {B : Nat} {w : World} {p mb : Nat} {most : Int} {L : List Ent} (hS : Sto B w p mb most L) (hD : DOk L) (hBig : L.length ≤ 1000000) (id : Int) (hk : isKnown L id) :
    Calls Tryz.prog 40 #[.pointer (some ⟨p, 0, none⟩), .int .i64 id] w (ExPost w L id) := by
 obtain ⟨i0, hi0, hz0, hz1, hz2⟩ := info_parts info_rule
 have hu : Tryz.prog.underlying 115 = some (.slice 132) := Tryz.underlying115
 have CK := Lib.hid (fun W (hW : Fr0 w W) => by obtain ⟨sv, h, _⟩ := hS.kept0 hW; exact st_known_yes h id hk)
 have CR := Lib.hid (fun W (hW : Fr0 w W) => st_reach_all (hS.kept0 hW) hD hBig id hk)
 have HS := Lib.hid hS
 have HDD := Lib.hid hD
 have HK := Lib.hid hk
 clear hS hD hk
 go_enter Tryz.func40, Tryz.ntmps40
 go_wp2_with fail
 refine (CK.out _ (Fr0.refl w)).mono ?_
 rintro e w' ⟨rfl, rfl⟩
 go_wp2_with fail
 refine (CR.out _ (Fr0.refl w)).mono ?_
 rintro e w1 ⟨out, v, rfl, hO, hOut⟩
 obtain ⟨oa, ocap, rfl, hI⟩ := ints_of_own hO.row (by decide) (by decide)
 have hsz : w.heap.size ≤ w1.heap.size := hO.fr.size
 have HAD : Hid (∀ ad, oa = some ad → w.heap.size ≤ ad.block ∧ ad.block < w1.heap.size) := fun ad had => hO.row.lt ad.block (by subst had; rfl)
 have hol : out.length ≤ 1000000 := by
  rcases hOut with ⟨_, rfl⟩ | ⟨_, h⟩
  · simp
  · have h0 := h.rng id h.mem
    have h1 := nodup_le id.toNat out h.nodup (fun x hx => by have := h.rng x hx; omega)
    have := HK.out.2
    omega
 have b2 : i0.bytes * out.length ≤ 281474976710656 := by rw [hz2]; omega
 have b3 : out.length ≤ maxLen := by unfold maxLen; omega
 have HI := Lib.hid hI
 have HFR := Lib.hid hO.fr
 have HOut := Lib.hid hOut
 clear hI hO hOut CK CR
 go_wp2_with (at_make; refine wpList_make_own _ rfl _ _ _ rfl w.heap.size 132 i0 _ 5 hu hi0 hz0 hz1 .i64 .i64 _ out.length rfl rfl rfl b2 b3 (by simp; omega) ?_; intro w2 hown hgrow)
 have hsz1 : (w1.alloc (.map #[] 0)).heap.size = w1.heap.size + 1 := by simp
 rw [hsz1] at hown
 have hE : ExR w w2 w1.heap.size oa (.slice (some ⟨w1.heap.size + 1, 0, none⟩) 0 out.length) out 0 [] := by
  have hold : ∀ b, b < w1.heap.size → w2.heap[b]? = w1.heap[b]? := fun b hb => (hgrow.block b (by simp; omega) (fun e => by cases e)).trans (alloc_lt _ _ _ hb)
  refine ⟨⟨hown, Fr.grown (Fr0.alloc HFR.out _) hgrow (fun k hk => by cases hk)⟩, ?_, hsz, fun i hi => ?_, fun ad had => ⟨fun e => ?_, (HAD.out ad had).1, ?_⟩⟩
  · exact (hgrow.block w1.heap.size (by simp) (fun e => by cases e)).trans (alloc_at _ _ _ rfl)
  · obtain ⟨b, off, cs, t, fr, h1, h2, h3⟩ := HI.out i hi
    exact ⟨b, off, cs, t, fr, h1, (hold b (lt_of_block h2)).trans h2, h3⟩
  · have := (HAD.out ad had).2
    simp [Value.ownBlock] at e
    omega
  · have h1 := (HAD.out ad had).2
    have h2 := hgrow.size
    simp at h2
    omega
 have HE := Lib.hid hE
 clear hE hown hgrow hsz1 HI HFR HAD b2 b3 hz0 hz1 hz2 hi0 hu
 generalize w1.heap.size = M at *
 go_loopw [8, 31] (fun v i wr => ∃ (k : Nat) (rs : List Rl), k ≤ out.length ∧ i = .int .i64 k ∧ (∃ a cap, v = .slice a rs.length cap) ∧ Hid (rs = expK L out k) ∧ ExR w wr M oa v out k rs) (fun _ i _ => out.length - (intOf i).toNat)
 case atStart => exact ⟨0, [], Nat.zero_le _, rfl, ⟨_, _, rfl⟩, (rfl : [] = expK L out 0), HE.out⟩
 case round =>
  obtain ⟨k, rs, hk, rfl, ⟨va, vcap, rfl⟩, HRS, hE⟩ := hrel
  clear HE
  by_cases hlt : k < out.length
  · obtain ⟨b, off, rfl, lb, hcell⟩ := hE.ints.cell k hlt
    rcases HOut.out with ⟨_, h⟩ | ⟨hid0, hout⟩
    · exfalso; rw [h] at hlt; simp at hlt
    · have hrng := hout.rng out[k] (List.getElem_mem hlt)
      have hkn := HK.out.2
      obtain ⟨n, hn⟩ : ∃ n : Nat, out[k] = (n : Int) + 1 := ⟨(out[k] - 1).toNat, by omega⟩
      have hnL : n < L.length := by omega
      have hni : out[k] ∉ out.take k := fun hm => by
       obtain ⟨j, hj, he⟩ := List.mem_iff_getElem.1 hm
       rw [List.length_take] at hj
       have := List.pairwise_iff_getElem.1 hout.sorted j k (by omega) hlt (by omega)
       rw [List.getElem_take] at he
       omega
      have hup := run_update_pp out[k] ((k : Int) + 1) wr hE.mp (nums_key hni)
      have hns : nums 0 (out.take k) ++ [(out[k], (k : Int) + 1)] = nums 0 (out.take (k + 1)) := by
       rw [List.take_succ_eq_append_getElem hlt, nums_push, List.length_take, Nat.min_eq_left hk, Nat.zero_add]
      rw [hns] at hup
      obtain ⟨m1, m2, m3, m4, m5⟩ := hE.mark (Obj.map (ppEntries 0 (nums 0 (out.take (k + 1)))).toArray (nums 0 (out.take (k + 1))).length)
      have hmp : (setB wr M (Obj.map (ppEntries 0 (nums 0 (out.take (k + 1)))).toArray (nums 0 (out.take (k + 1))).length)).heap[M]? = some (Obj.map (ppEntries 0 (nums 0 (out.take (k + 1)))).toArray (nums 0 (out.take (k + 1))).length) := setB_same m2
      have hs1 : (setB wr M (Obj.map (ppEntries 0 (nums 0 (out.take (k + 1)))).toArray (nums 0 (out.take (k + 1))).length)).heap.size = wr.heap.size := setB_size
      generalize setB wr M (Obj.map (ppEntries 0 (nums 0 (out.take (k + 1)))).toArray (nums 0 (out.take (k + 1))).length) = W1 at *
      have hSo := HS.out.kept0 m3
      obtain ⟨sv, hSS, _⟩ := hSo
      obtain ⟨eb, ecap, rfl, hec⟩ := owned_ent hSS (List.getElem?_eq_getElem hnL)
      have cp := (cells3 hSS.ptr).2.1
      have lp := lt_of_block hSS.ptr
      have q0 := hec 0 _ rfl
      have q1 := hec 1 _ rfl
      have q2 := hec 2 _ rfl
      have q3 := hec 3 _ rfl
      have q4 := hec 4 _ rfl
      rw [Nat.add_zero] at q0
      have leb := World.block_lt_of_cell? W1 _ q0
      have hl := hout.renum HDD.out HK.out hlt (entAt L out[k]).rule.left (.inl rfl)
      have hr := hout.renum HDD.out HK.out hlt (entAt L out[k]).rule.right (.inr rfl)
      have hsucc := expK_succ L out hlt
      rw [hn, entAt_succ L n hnL] at hl hr hsucc
      rw [hn] at hcell hup
      rw [← valIn_nums0] at hl hr
      have HL := Lib.hid hl
      have HR := Lib.hid hr
      have HAP := Lib.hid hE.apart
      have e1 := IntWalk.i64_in (n : Int) (by omega)
      have hnI : (n : Int) < (L.length : Int) := by omega
      have hrl : rs.length ≤ 1000000 := by have := HRS.out; rw [this, expK_len L out hk]; omega
      unfold renum at hsucc
      have HSU := Lib.hid hsucc
      clear hec hSS hl hr hsucc hout hE hns hni
      generalize L[n] = x at *
      generalize numIn out x.rule.left = nl at *
      generalize numIn out x.rule.right = nr at *
      go_upto_region 13 with fail
      have hD : (W1.alloc (.cells #[.int .i64 x.rule.kind, .int .u8 x.rule.letter, .int .i64 x.rule.left, .int .i64 x.rule.right, .int .i64 x.rule.times] 132 (0, 0))).heap[wr.heap.size]? = some (.cells #[.int .i64 x.rule.kind, .int .u8 x.rule.letter, .int .i64 x.rule.left, .int .i64 x.rule.right, .int .i64 x.rule.times] 132 (0, 0)) := alloc_at _ _ _ hs1.symm
      have hm2 : (W1.alloc (.cells #[.int .i64 x.rule.kind, .int .u8 x.rule.letter, .int .i64 x.rule.left, .int .i64 x.rule.right, .int .i64 x.rule.times] 132 (0, 0))).heap[M]? = _ := (alloc_lt _ _ _ (by omega)).trans hmp
      have f2 : Fr0 W1 (W1.alloc (.cells #[.int .i64 x.rule.kind, .int .u8 x.rule.letter, .int .i64 x.rule.left, .int .i64 x.rule.right, .int .i64 x.rule.times] 132 (0, 0))) := (Fr0.refl W1).alloc _
      generalize W1.alloc (.cells #[.int .i64 x.rule.kind, .int .u8 x.rule.letter, .int .i64 x.rule.left, .int .i64 x.rule.right, .int .i64 x.rule.times] 132 (0, 0)) = W2 at *
      have hwM : M < wr.heap.size := m2
      obtain ⟨Z, hZ⟩ : ∃ Z, Z = wr.heap.size := ⟨_, rfl⟩
      rw [← hZ] at hD hwM hs1 ⊢
      have HZ := Lib.hid hZ
      clear hZ
      have hlL := run_lookup_pp x.rule.left W2.drew hm2
      have hlR := run_lookup_pp x.rule.right W2.drew hm2
      have hlR2 := run_lookup_pp x.rule.right (W2.setCell ⟨Z, 2, none⟩ (.int .i64 nl)).drew ((setCell_other _ _ (by show M ≠ Z; omega)).trans hm2)
      rw [HL.out] at hlL
      rw [HR.out] at hlR hlR2
      obtain ⟨c0, c1, c2, c3, c4, lZ⟩ := cells5 hD
      have fz : ∀ o, W2.frozen? ⟨Z, o, none⟩ = false := fun o => frozen_of_block hD o
      go_cut [] (fun wx => wx.heap[Z]? = some (.cells #[.int .i64 x.rule.kind, .int .u8 x.rule.letter, .int .i64 nl, .int .i64 nr, .int .i64 x.rule.times] 132 (0, 0)) ∧ Fr (fun j => j = Z) W2 wx)
      case first =>
       go_region
       all_goals
        go_wp2_with fail
        go_meet
        exact ⟨setCell_block (setCell_block (w := W2) hD 2 _) 3 _, (((Fr.refl (fun j => j = Z) W2).setCell _ _ (fun _ => rfl)).setCell _ _ (fun _ => rfl)).drew⟩
      case rest =>
       obtain ⟨hDc, hfx⟩ := hcut
       clear hlL hlR hlR2 c0 c1 c2 c3 c4 fz
       obtain ⟨c0, c1, c2, c3, c4, lZ2⟩ := cells5 hDc
       have n0 : Fr0 w wc := Fr.trans (m3.trans f2) hfx (fun j hj hlt => by have h1 := m1; omega)
       have n1 : wc.ownsRow w.heap.size 132 5 (.slice va rs.length vcap) rs.length (ruleCells rs) := hfx.owns (f2.owns m4) (fun j hj e => by have := (m4.lt j hj).2; omega)
       have n2 : wc.heap[M]? = _ := hfx.kept hm2 (fun e => by omega)
       have n3 : IntsAt wc (some ⟨b, off, none⟩) out := fun i hi => by
        obtain ⟨b', off', cs, t, fr, g1, g2, g3⟩ := m5 i hi
        exact ⟨b', off', cs, t, fr, g1, hfx.kept (f2.kept g2) (fun e => by have := lt_of_block g2; omega), g3⟩
       have n4 : ∀ ad : Addr, (some ⟨b, off, none⟩ : Option Addr) = some ad → (Value.slice va rs.length vcap).ownBlock ≠ some ad.block ∧ w.heap.size ≤ ad.block ∧ ad.block < wc.heap.size := fun ad had => by
        obtain ⟨g1, g2, g3⟩ := HAP.out ad had
        have := HZ.out
        exact ⟨g1, g2, by omega⟩
       have HNX := Lib.hid (fun v' w4 (r : Rl) o q1 q2 q3 => ExR.next (k := k) (r := r) (w4 := w4) (v' := v') (o := o) n0 n1 n2 m1 n3 n4 q1 q2 q3)
       have hws : w.heap.size ≤ wc.heap.size := Fr.size n0
       have hO3 := n1
       clear n0 n1 n2 n3 n4 hm2 hD hDc hfx f2 m3 m4 m5 hup hmp cp q0 q1 q2 q3 q4
       go_wp2_with (at_builtin; refine wpList_append_rt rt_rule rfl _ _ rfl w.heap.size (.slice va rs.length vcap) rs.length (ruleCells rs) rfl (hO3.alloc _) _ 1 [.int .i64 x.rule.kind, .int .u8 x.rule.letter, .int .i64 nl, .int .i64 nr, .int .i64 x.rule.times] rfl (src_cells wc #[.int .i64 x.rule.kind, .int .u8 x.rule.letter, .int .i64 nl, .int .i64 nr, .int .i64 x.rule.times] _ 1 1) rfl (by simp [Value.oneCell']) (by unfold maxLen; omega) (by omega) (by simp; omega) ?_; intro v' w4 q1 q2 q3)
       have hX := HNX.out v' w4 ⟨x.rule.kind, x.rule.letter, nl, nr, x.rule.times⟩ _ q1 q2 (by simpa using q3)
       have hfo := hX.own.form
       go_roundw
       case rel => exact ⟨k + 1, rs ++ [⟨x.rule.kind, x.rule.letter, nl, nr, x.rule.times⟩], by omega, by go_num, hfo, (by have h1 := HSU.out; have h2 := HRS.out; show _ = _; rw [h1, ← h2]), hX⟩
       case measure => simp [intOf]; omega
  · have hke : k = out.length := by omega
    have HO := Lib.hid hE.own
    have HF : Hid ((id = 0 ∧ rs = []) ∨ (id ≠ 0 ∧ ∃ out, Outs L id out ∧ rs = expo L out)) := by
     have h1 := HRS.out
     rcases HOut.out with ⟨h2, h3⟩ | ⟨h2, h3⟩
     · left
       refine ⟨h2, ?_⟩
       rw [h1, h3]; simp [expK]
     · exact .inr ⟨h2, out, h3, by rw [h1, hke, expK_all]⟩
    clear hE
    go_wp2_with fail
    go_ret2
    exact ⟨rs, _, rfl, HO.out, HF.out⟩
end Go.Proofs.YtbhidkmhlfggfaaGreatDoor
/- Grammars of letters and pairs in memory, and the walks of evergreenref11's Rule, Check. -/
set_option linter.unusedSimpArgs false
set_option linter.unusedVariables false
namespace Go.Proofs.YtbhidkmhlfggfaaGreatDoor
open Go.RowKit
def RulesAt (w : World) (a : Option Addr) (rs : List Rl) : Prop :=
 ∀ i (h : i < rs.length), ∃ b off, a = some ⟨b, off, none⟩ ∧ b < w.heap.size ∧ w.cell? ⟨b, off + i * 5, none⟩ = some (.int .i64 rs[i].kind) ∧ w.cell? ⟨b, off + i * 5 + 1, none⟩ = some (.int .u8 rs[i].letter) ∧ w.cell? ⟨b, off + i * 5 + 2, none⟩ = some (.int .i64 rs[i].left) ∧
  w.cell? ⟨b, off + i * 5 + 3, none⟩ = some (.int .i64 rs[i].right) ∧ w.cell? ⟨b, off + i * 5 + 4, none⟩ = some (.int .i64 rs[i].times)
theorem RulesAt.kept0 {w w' : World} {a : Option Addr} {rs : List Rl} (h : RulesAt w a rs) (hf : Fr0 w w') : RulesAt w' a rs := by
 intro i hi
 obtain ⟨b, off, h1, h2, h3, h4, h5, h6, h7⟩ := h i hi
 exact ⟨b, off, h1, by have := Fr.size hf; omega, (hf.cell b _ h2).trans h3, (hf.cell b _ h2).trans h4, (hf.cell b _ h2).trans h5, (hf.cell b _ h2).trans h6, (hf.cell b _ h2).trans h7⟩
theorem ruleCells_at : ∀ (rs : List Rl) (i : Nat) (h : i < rs.length) (j : Nat) (hj : j < 5), (ruleCells rs)[i * 5 + j]? = rs[i].vals[j]?
 | r :: l, 0, _, j, hj => by
  have : j < r.vals.length := by simpa [Rl.vals] using hj
  simp only [ruleCells, List.flatMap_cons, Nat.zero_mul, Nat.zero_add, List.getElem_cons_zero]
  rw [List.getElem?_append_left this]
 | r :: l, i + 1, h, j, hj => by
  have := ruleCells_at l i (by simpa using h) j hj
  have hv : r.vals.length = 5 := rfl
  simp only [ruleCells, List.flatMap_cons, List.getElem_cons_succ] at this ⊢
  rw [List.getElem?_append_right (by omega), hv, show (i + 1) * 5 + j - 5 = i * 5 + j by omega]
  exact this
theorem rules_of_own {w0 w : World} {v : Value} {rs : List Rl} (h : OwnR w0 w v rs) : ∃ a cap, v = .slice a rs.length cap ∧ RulesAt w a rs := by
 rcases h.row.2 with ⟨e1, e2⟩ | ⟨g, cap, cur, e1, _, hg, _, _, _, ht⟩
 · have : rs = [] := List.eq_nil_of_length_eq_zero e2
   subst this
   exact ⟨none, 0, e1, fun i hi => by simp at hi⟩
 · refine ⟨_, cap, e1, fun i hi => ⟨g, 0, rfl, lt_of_block hg, ?_⟩⟩
   have key : ∀ j, j < 5 → w.cell? ⟨g, 0 + i * 5 + j, none⟩ = rs[i].vals[j]? := fun j hj => by
    have h1 := congrArg (fun l => l[i * 5 + j]?) ht
    rw [List.getElem?_take_of_lt (by omega), ruleCells_at rs i hi j hj] at h1
    rw [cell_of_block hg, Nat.zero_add, ← Array.getElem?_toList]
    exact h1
   exact ⟨key 0 (by omega), key 1 (by omega), key 2 (by omega), key 3 (by omega), key 4 (by omega)⟩
structure Gram (rs : List Rl) (tx : Nat → List Int) : Prop where
 ok : ∀ i (h : i < rs.length), (∃ c : Int, rs[i] = ⟨1, c, 0, 0, 0⟩ ∧ tx i = [c]) ∨ (∃ l r : Nat, l < i ∧ r < i ∧ rs[i] = ⟨2, 0, (l : Int) + 1, (r : Int) + 1, 0⟩ ∧ tx i = tx l ++ tx r)
 len : ∀ i, i < rs.length → ((tx i).length : Int) ≤ 1152921504606846976
 few : rs.length ≤ 1000000
set_option maxRecDepth 100000 in
set_option maxHeartbeats 400000 in
theorem ref11_earlier (id n : Int) (w : World) (h1 : 1 ≤ id) (h2 : id < n) :
    Calls Tryz.prog 110 #[.int .i64 id, .int .i64 n] w fun e w' => e = .returned (.bool true) ∧ w = w' := by
 have e1 : decide (1 ≤ id) = true := by simpa using h1
 have e2 : decide (id < n) = true := by simpa using h2
 go_enter Tryz.func110, Tryz.ntmps110
 go_wp2_with fail
 go_ret
 exact ⟨rfl, rfl⟩
set_option maxRecDepth 100000 in
set_option maxHeartbeats 800000 in
theorem ref11_Rule_letter (c n : Int) (w : World) (hn : 1 ≤ n) :
    Calls Tryz.prog 87 #[.agg #[.int .i64 1, .int .u8 c, .int .i64 0, .int .i64 0, .int .i64 0], .int .i64 n] w fun e w' => e = .returned (.int .i64 0) ∧ Fr0 w w' := by
 go_enter Tryz.func87, Tryz.ntmps87
 go_wp2_with fail
 go_ret
 exact ⟨rfl, (Fr0.refl w).alloc _⟩
set_option maxRecDepth 100000 in
set_option maxHeartbeats 800000 in
theorem ref11_Rule_pair (l r n : Int) (w : World) (l1 : 1 ≤ l) (l2 : l < n) (r1 : 1 ≤ r) (r2 : r < n) :
    Calls Tryz.prog 87 #[.agg #[.int .i64 2, .int .u8 0, .int .i64 l, .int .i64 r, .int .i64 0], .int .i64 n] w fun e w' => e = .returned (.int .i64 0) ∧ Fr0 w w' := by
 have CL := Lib.hid (fun W => ref11_earlier l n W l1 l2)
 have CR := Lib.hid (fun W => ref11_earlier r n W r1 r2)
 have hn : 1 ≤ n := by omega
 clear l1 l2 r1 r2
 go_enter Tryz.func87, Tryz.ntmps87
 go_wp2_with fail
 refine (CL.out _).mono ?_
 rintro e w' ⟨rfl, rfl⟩
 go_wp2_with fail
 refine (CR.out _).mono ?_
 rintro e w' ⟨rfl, rfl⟩
 go_wp2_with fail
 go_ret
 exact ⟨rfl, (Fr0.refl w).alloc _⟩
theorem ref11_Rule {rs : List Rl} {tx : Nat → List Int} (hG : Gram rs tx) (i : Nat) (hi : i < rs.length) (w : World) :
    Calls Tryz.prog 87 #[.agg #[.int .i64 rs[i].kind, .int .u8 rs[i].letter, .int .i64 rs[i].left, .int .i64 rs[i].right, .int .i64 rs[i].times], .int .i64 ((i : Int) + 1)] w fun e w' => e = .returned (.int .i64 0) ∧ Fr0 w w' := by
 rcases hG.ok i hi with ⟨c, h, _⟩ | ⟨l, r, hl, hr, h, _⟩
 · rw [h]; exact ref11_Rule_letter c _ w (by omega)
 · rw [h]; exact ref11_Rule_pair ((l : Int) + 1) ((r : Int) + 1) ((i : Int) + 1) w (by omega) (by omega) (by omega) (by omega)
set_option maxRecDepth 100000 in
set_option maxHeartbeats 1000000 in
theorem ref11_Check {w : World} {a : Option Addr} {cap : Nat} {rs : List Rl} {tx : Nat → List Int} (hA : RulesAt w a rs) (hG : Gram rs tx) :
    Calls Tryz.prog 72 #[.slice a rs.length cap] w fun e w' => e = .returned (.int .i64 0) ∧ Fr0 w w' := by
 have HA := Lib.hid hA
 have HG := Lib.hid hG
 have hfew := hG.few
 clear hA hG
 go_enter Tryz.func72, Tryz.ntmps72
 go_wp2_with fail
 go_loopw [3] (fun i wr => ∃ k : Nat, k ≤ rs.length ∧ i = .int .i64 k ∧ Fr0 w wr) (fun i _ => rs.length - (intOf i).toNat)
 case atStart => exact ⟨0, Nat.zero_le _, rfl, Fr0.refl w⟩
 case round =>
  obtain ⟨k, hk, rfl, hfr⟩ := hrel
  by_cases hlt : k < rs.length
  · obtain ⟨b, off, rfl, lb, c0, c1, c2, c3, c4⟩ := (HA.out.kept0 hfr) k hlt
    have CR := Lib.hid (fun W => ref11_Rule HG.out k hlt W)
    generalize rs[k] = r at *
    go_wp2_with fail
    refine (CR.out _).mono ?_
    rintro e w2 ⟨rfl, hf2⟩
    go_wp2_with fail
    go_roundw
    case rel => exact ⟨k + 1, by omega, by go_num, hfr.trans hf2⟩
    case measure => simp [intOf]; omega
  · go_wp2_with fail
    go_ret
    exact ⟨rfl, hfr⟩
end Go.Proofs.YtbhidkmhlfggfaaGreatDoor
/- The walk of evergreenref11.Lengths. -/
set_option linter.unusedSimpArgs false
set_option linter.unusedVariables false
namespace Go.Proofs.YtbhidkmhlfggfaaGreatDoor
open Go.RowKit
set_option maxRecDepth 100000 in
set_option maxHeartbeats 400000 in
theorem ref01_Valid (n : Int) (w : World) (h0 : 0 ≤ n) (h1 : n ≤ 1152921504606846976) :
    Calls Tryz.prog 88 #[.int .i64 n] w fun e w' => e = .returned (.bool true) ∧ w = w' := by
 have e1 : decide (0 ≤ n) = true := by simpa using h0
 have e2 : decide (n ≤ 1152921504606846976) = true := by simpa using h1
 go_enter Tryz.func88, Tryz.ntmps88
 go_wp2_with fail
 go_ret
 exact ⟨rfl, rfl⟩
set_option maxRecDepth 100000 in
set_option maxHeartbeats 400000 in
theorem ref01_Add (a b : Int) (w : World) (a0 : 0 ≤ a) (b0 : 0 ≤ b) (h : a + b ≤ 1152921504606846976) :
    Calls Tryz.prog 73 #[.int .i64 a, .int .i64 b] w fun e w' => e = .returned (.tuple #[.int .i64 (a + b), .int .i64 0]) ∧ w' = w := by
 have CA := Lib.hid (fun W => ref01_Valid a W a0 (by omega))
 have CB := Lib.hid (fun W => ref01_Valid b W b0 (by omega))
 have e1 := IntWalk.i64_in (a + b) (by omega)
 go_enter Tryz.func73, Tryz.ntmps73
 go_wp2_with fail
 refine (CA.out _).mono ?_
 rintro e w' ⟨rfl, rfl⟩
 go_wp2_with fail
 refine (CB.out _).mono ?_
 rintro e w' ⟨rfl, rfl⟩
 go_wp2_with fail
 go_ret2
 exact ⟨rfl, rfl⟩
def lensT (tx : Nat → List Int) (k : Nat) : List Int := (List.range k).map fun i => ((tx i).length : Int)
theorem lensT_len (tx : Nat → List Int) (k : Nat) : (lensT tx k).length = k := by simp [lensT]
theorem lensT_succ (tx : Nat → List Int) (k : Nat) : lensT tx (k + 1) = lensT tx k ++ [((tx k).length : Int)] := by simp [lensT, List.range_succ]
theorem lensT_at (tx : Nat → List Int) (k i : Nat) (h : i < (lensT tx k).length) : (lensT tx k)[i] = ((tx i).length : Int) := by simp [lensT]
def LnPost (w : World) (tx : Nat → List Int) (n : Nat) (e : Ending) (w' : World) : Prop := ∃ v, e = .returned (.tuple #[v, .int .i64 0]) ∧ OwnI 3 w w' v (lensT tx n)
set_option maxRecDepth 100000 in
set_option maxHeartbeats 2000000 in
theorem ref11_Lengths {w : World} {a : Option Addr} {cap : Nat} {rs : List Rl} {tx : Nat → List Int} (hA : RulesAt w a rs) (hG : Gram rs tx) :
    Calls Tryz.prog 56 #[.slice a rs.length cap] w (LnPost w tx rs.length) := by
 have CC := Lib.hid (ref11_Check (cap := cap) hA hG)
 have HA := Lib.hid hA
 have HG := Lib.hid hG
 have hfew := hG.few
 clear hA hG
 go_enter Tryz.func56, Tryz.ntmps56
 go_wp2_with fail
 refine CC.out.mono ?_
 rintro e w1 ⟨rfl, hf1⟩
 have HF1 := Lib.hid hf1
 clear CC hf1
 go_wp2_with fail
 go_loopw [5, 6] (fun v i wr => ∃ k : Nat, k ≤ rs.length ∧ i = .int .i64 k ∧ (∃ a cap, v = .slice a k cap) ∧ OwnI 3 w wr v (lensT tx k)) (fun _ i _ => rs.length - (intOf i).toNat)
 case atStart => exact ⟨0, Nat.zero_le _, rfl, ⟨none, 0, rfl⟩, OwnI.nil _ HF1.out⟩
 case round =>
  obtain ⟨k, hk, rfl, ⟨va, vcap, rfl⟩, hO⟩ := hrel
  clear HF1
  by_cases hlt : k < rs.length
  · obtain ⟨b, off, rfl, lb, c0, c1, c2, c3, c4⟩ := (HA.out.kept0 hO.fr) k hlt
    have HO := Lib.hid hO
    have hlk : (lensT tx k).length ≤ 1000000 := by rw [lensT_len]; omega
    have HSU := Lib.hid (lensT_succ tx k)
    have HLL := Lib.hid (lensT_len tx (k + 1))
    rcases HG.out.ok k hlt with ⟨c, h, ht⟩ | ⟨l, r, hl, hr, h, ht⟩
    · rw [h] at c0 c1 c2 c3 c4
      have HT : Hid (((tx k).length : Int) = 1) := by show _ = _; rw [ht]; rfl
      clear h ht
      go_wp2_with (at_builtin; refine wpList_push rt_int rfl _ _ rfl _ _ rfl hO 3 1 1 _ rfl rfl hlk ?_; intro v' w4 hO4 hg4 hat4)
      have hO5 : OwnI 3 w w4 v' (lensT tx (k + 1)) := by rw [HSU.out, HT.out]; exact hO4
      have hfo := hO5.form
      rw [HLL.out] at hfo
      go_roundw
      case rel => exact ⟨k + 1, by omega, by go_num, hfo, hO5⟩
      case measure => simp [intOf]; omega
    · rw [h] at c0 c1 c2 c3 c4
      obtain ⟨ga, gcap, hgv, hI⟩ := ints_of_own hO.row (by decide) (by decide)
      rw [lensT_len] at hgv
      cases hgv
      obtain ⟨gb, goff, rfl, lgb, hcl⟩ := hI.cell l (by rw [lensT_len]; omega)
      obtain ⟨gb', goff', hga, lgb', hcr⟩ := hI.cell r (by rw [lensT_len]; omega)
      cases hga
      rw [lensT_at] at hcl hcr
      have hsum : ((tx l).length : Int) + ((tx r).length : Int) ≤ 1152921504606846976 := by
       have := HG.out.len k hlt
       rw [ht, List.length_append] at this
       omega
      have CA := Lib.hid (fun W => ref01_Add ((tx l).length : Int) ((tx r).length : Int) W (by omega) (by omega) hsum)
      have HT : Hid (((tx k).length : Int) = ((tx l).length : Int) + ((tx r).length : Int)) := by show _ = _; rw [ht, List.length_append]; omega
      have e1 := IntWalk.i64_in (l : Int) (by omega)
      have e2 := IntWalk.i64_in (r : Int) (by omega)
      have hl2 : (l : Int) < (k : Int) := by omega
      have hr2 : (r : Int) < (k : Int) := by omega
      clear h ht hI hO
      generalize ((tx l).length : Int) = tl at *
      generalize ((tx r).length : Int) = tr at *
      dsimp only at c0 c1 c2 c3 c4
      go_upto_region 11 with fail
      go_quiet ((go_at_call 73; exact Calls.quiet_of_same (CA.out _)))
      have hO2 := HO.out.kept0 ((Fr0.refl wr).drewN nq)
      go_wp2_with (at_builtin; refine wpList_push rt_int rfl _ _ rfl _ _ rfl hO2 3 (tl + tr) 1 _ rfl rfl hlk ?_; intro v' w4 hO4 hg4 hat4)
      have hO5 : OwnI 3 w w4 v' (lensT tx (k + 1)) := by rw [HSU.out, HT.out]; exact hO4
      have hfo := hO5.form
      rw [HLL.out] at hfo
      go_roundw
      case rel => exact ⟨k + 1, by omega, by go_num, hfo, hO5⟩
      case measure => simp [intOf]; omega
  · have hke : k = rs.length := by omega
    rw [hke] at hO
    have HO := Lib.hid hO
    clear hO
    go_wp2_with fail
    go_ret2
    exact ⟨_, rfl, by rw [hke]; exact HO.out⟩
end Go.Proofs.YtbhidkmhlfggfaaGreatDoor
/- The walks of evergreenref11's plain and Plain. -/
set_option linter.unusedSimpArgs false
set_option linter.unusedVariables false
namespace Go.Proofs.YtbhidkmhlfggfaaGreatDoor
open Go.RowKit
theorem info_byte : (Tryz.prog.info? 5).map (fun i => (i.zero, i.size, i.bytes)) = some (some (.int .u8 0), 1, 1) := by kernel_rfl
structure OwnB (w0 w : World) (v : Value) (t : List Int) : Prop where
 row : w.ownsRow w0.heap.size 5 1 v t.length (t.map fun x => Value.int .u8 x)
 fr : Fr0 w0 w
theorem OwnB.kept0 {w0 w w' : World} {v : Value} {t : List Int} (h : OwnB w0 w v t) (hf : Fr0 w w') : OwnB w0 w' v t := ⟨hf.owns h.row, h.fr.trans hf⟩
theorem owns_base {w : World} {base base' : Nat} {e : TypeId} {size n : Nat} {v : Value} {xs : List Value} (h : w.ownsRow base e size v n xs) (hb : base' ≤ base) : w.ownsRow base' e size v n xs := by
 refine ⟨h.1, ?_⟩
 rcases h.2 with h1 | ⟨g, cap, cur, h1, h2, r⟩
 · exact .inl h1
 · exact .inr ⟨g, cap, cur, h1, by omega, r⟩
theorem OwnB.news {w0 w : World} {g cap : Nat} {t : List Int} (h : OwnB w0 w (.slice (some ⟨g, 0, none⟩) t.length cap) t) : ∀ j u, (t.map fun x => Value.int .u8 x)[j]? = some u → w.cell? ((⟨g, 0, none⟩ : Addr).add j) = some u := by
 rcases h.row.2 with ⟨e1, _⟩ | ⟨g', cap', cur, e1, _, hg, _, _, _, ht⟩
 · cases e1
 · cases e1
   intro j u hj
   have hlt : j < t.length := by
    have := (List.getElem?_eq_some_iff.1 hj).1
    simpa using this
   have h1 := congrArg (fun l => l[j]?) ht
   rw [List.getElem?_take_of_lt (by omega), hj] at h1
   have h2 : w.cell? ⟨g, j, none⟩ = some u := by
    rw [cell_of_block hg, ← Array.getElem?_toList]
    exact h1
   have e2 : (⟨g, 0, none⟩ : Addr).add j = ⟨g, j, none⟩ := by
    unfold Addr.add
    split
    · rename_i h0; rw [h0]
    · simp
   rw [e2]; exact h2
theorem Gram.pos {rs : List Rl} {tx : Nat → List Int} (h : Gram rs tx) : ∀ (m n : Nat), n < m → n < rs.length → 0 < (tx n).length
 | 0, n, h1, _ => by omega
 | m + 1, n, h1, h2 => by
  rcases h.ok n h2 with ⟨c, _, ht⟩ | ⟨l, r, hl, hr, _, ht⟩
  · rw [ht]; simp
  · rw [ht, List.length_append]
    have := Gram.pos h m l (by omega) (by omega)
    omega
def PlPost (w : World) (t : List Int) (e : Ending) (w' : World) : Prop := ∃ g cap, e = .returned (.slice (some ⟨g, 0, none⟩) t.length cap) ∧ OwnB w w' (.slice (some ⟨g, 0, none⟩) t.length cap) t
set_option maxRecDepth 100000 in
set_option maxHeartbeats 2000000 in
theorem ref11_plain_pair {w : World} {b off n cap : Nat} {N : Nat} {l r : Nat} {tl tr : List Int} (hn : n < N) (hN : N ≤ 1000000) (lb : b < w.heap.size)
    (c0 : w.cell? ⟨b, off + n * 5, none⟩ = some (.int .i64 2)) (c1 : w.cell? ⟨b, off + n * 5 + 1, none⟩ = some (.int .u8 0)) (c2 : w.cell? ⟨b, off + n * 5 + 2, none⟩ = some (.int .i64 ((l : Int) + 1)))
    (c3 : w.cell? ⟨b, off + n * 5 + 3, none⟩ = some (.int .i64 ((r : Int) + 1))) (c4 : w.cell? ⟨b, off + n * 5 + 4, none⟩ = some (.int .i64 0)) (hl : l < n) (hr : r < n) (hpr : 0 < tr.length) (hlen : tl.length + tr.length ≤ 4096)
    (CL : Hid (∀ W, Fr0 w W → Calls Tryz.prog 57 #[.slice (some ⟨b, off, none⟩) N cap, .int .i64 ((l : Int) + 1)] W (PlPost W tl)))
    (CR : Hid (∀ W, Fr0 w W → Calls Tryz.prog 57 #[.slice (some ⟨b, off, none⟩) N cap, .int .i64 ((r : Int) + 1)] W (PlPost W tr))) :
    Calls Tryz.prog 57 #[.slice (some ⟨b, off, none⟩) N cap, .int .i64 ((n : Int) + 1)] w (PlPost w (tl ++ tr)) := by
 obtain ⟨i0, hi0, hz0, hz1, hz2⟩ := info_parts info_byte
 have hu : Tryz.prog.underlying 58 = some (.slice 5) := Tryz.underlying58
 have e0 : ((n : Int) + 1 == 0) = false := by simp; omega
 have e1 := IntWalk.i64_in (n : Int) (by omega)
 have hnI : (n : Int) < (N : Int) := by omega
 go_enter Tryz.func57, Tryz.ntmps57
 go_wp2_with fail
 obtain ⟨W, hW⟩ : ∃ W, w.alloc (.cells #[.int .i64 2, .int .u8 0, .int .i64 ((l : Int) + 1), .int .i64 ((r : Int) + 1), .int .i64 0] 132 (0, 0)) = W := ⟨_, rfl⟩
 rw [hW]
 have hD : W.heap[w.heap.size]? = some (.cells #[.int .i64 2, .int .u8 0, .int .i64 ((l : Int) + 1), .int .i64 ((r : Int) + 1), .int .i64 0] 132 (0, 0)) := by rw [← hW]; exact alloc_at _ _ _ rfl
 have hf0 : Fr0 w W.drew := by rw [← hW]; exact ((Fr0.refl w).alloc _).drew
 have hws : W.heap.size = w.heap.size + 1 := by rw [← hW]; simp
 obtain ⟨d0, d1, d2, d3, d4, lD⟩ := cells5 hD
 clear hW c0 c1 c2 c3 c4
 generalize hZ : w.heap.size = Z at *
 have HF0 := Lib.hid hf0
 clear hf0
 go_region_law (first
  | (refine step_append_lies _ (by rfl) _ _ _ (by rfl) Z 5 i0 _ 1 1 hu hi0 hz0 hz1 hz2 rfl (by omega) (.slice (some ⟨g1, 0, none⟩) tl.length cap1) tl.length (tl.map fun x => Value.int .u8 x) (by rfl) HO12.out ⟨g2, 0, none⟩ tr.length cap2 (tr.map fun x => Value.int .u8 x) (by rfl) (by simp) HO2.out.news (by simp [Value.oneCell']) hpr (by unfold maxLen; omega) (by omega) (by omega) w4.heap.size rfl ?_; intro g cap5 w5 hown5 hgrow5 hat5 hlt5)
  | (go_simp; go_at_call 57; refine (CR.out _ HFA.out).mono ?_; rintro e w4 ⟨g2, cap2, rfl, hO2⟩; have HO12 := Lib.hid (owns_base (HO1.out.kept0 hO2.fr).row (show Z ≤ _ by simp; omega)); have HF4 := Lib.hid (HFA.out.trans hO2.fr); have HO2 := Lib.hid hO2; have hz4 : Z ≤ w4.heap.size := (by have hq := HF4.out.size'; (try simp at hq); omega); clear hO2; try dsimp only)
  | (go_simp; go_at_call 57; refine (CL.out _ HF0.out).mono ?_; rintro e w3 ⟨g1, cap1, rfl, hO1⟩; have d3' : w3.cell? ⟨Z, 3, none⟩ = some (.int .i64 ((r : Int) + 1)) := ((hO1.fr.cell _ _ lD).trans d3); have l3 : Z < w3.heap.size := (by have hq := hO1.fr.size'; (try simp at hq); omega); have HFA := Lib.hid (HF0.out.trans hO1.fr); have HO1 := Lib.hid hO1; clear hO1; try dsimp only))
 all_goals
  have hX : OwnB w w5 (.slice (some ⟨g, 0, none⟩) (tl ++ tr).length cap5) (tl ++ tr) := ⟨by rw [hZ]; simpa using hown5, Fr.grown HF4.out hgrow5 (fun k hk hlt => by have := (HO12.out.lt k hk).1; omega)⟩
  rw [List.length_append] at hX
  have HX := Lib.hid hX
  clear hX hown5 hgrow5 hat5
  go_wp2_with fail
  go_ret
  exact ⟨g, cap5, by rw [List.length_append]; rfl, by rw [List.length_append]; exact HX.out⟩
end Go.Proofs.YtbhidkmhlfggfaaGreatDoor
/- The walks of evergreenref11's plain and Plain, whole. -/
set_option linter.unusedSimpArgs false
set_option linter.unusedVariables false
namespace Go.Proofs.YtbhidkmhlfggfaaGreatDoor
open Go.RowKit
set_option maxRecDepth 100000 in
set_option maxHeartbeats 1000000 in
theorem ref11_plain_letter {w : World} {b off n cap : Nat} {N : Nat} {c : Int} (hn : n < N) (hN : N ≤ 1000000) (lb : b < w.heap.size)
    (c0 : w.cell? ⟨b, off + n * 5, none⟩ = some (.int .i64 1)) (c1 : w.cell? ⟨b, off + n * 5 + 1, none⟩ = some (.int .u8 c)) (c2 : w.cell? ⟨b, off + n * 5 + 2, none⟩ = some (.int .i64 0))
    (c3 : w.cell? ⟨b, off + n * 5 + 3, none⟩ = some (.int .i64 0)) (c4 : w.cell? ⟨b, off + n * 5 + 4, none⟩ = some (.int .i64 0)) :
    Calls Tryz.prog 57 #[.slice (some ⟨b, off, none⟩) N cap, .int .i64 ((n : Int) + 1)] w (PlPost w [c]) := by
 have e0 : ((n : Int) + 1 == 0) = false := by simp; omega
 have e1 := IntWalk.i64_in (n : Int) (by omega)
 have hnI : (n : Int) < (N : Int) := by omega
 go_enter Tryz.func57, Tryz.ntmps57
 go_wp2_with fail
 go_ret
 refine ⟨w.heap.size + 1, 1, rfl, ⟨⟨rfl, .inr ⟨w.heap.size + 1, 1, #[.int .u8 c], rfl, Nat.le_succ _, ?_, Nat.le_refl _, by decide, rfl, rfl⟩⟩, ((Fr0.refl w).alloc _).alloc _⟩⟩
 exact alloc2_1 _ _ _
theorem ref11_plain {rs : List Rl} {tx : Nat → List Int} (hG : Gram rs tx) {a : Option Addr} {cap : Nat} : ∀ (m n : Nat), n < m → n < rs.length → ∀ w, RulesAt w a rs → (tx n).length ≤ 4096 →
    Calls Tryz.prog 57 #[.slice a rs.length cap, .int .i64 ((n : Int) + 1)] w (PlPost w (tx n))
 | 0, n, h, _, _, _, _ => by omega
 | m + 1, n, h, hn, w, hA, hl => by
  obtain ⟨b, off, rfl, lb, c0, c1, c2, c3, c4⟩ := hA n hn
  rcases hG.ok n hn with ⟨c, hr, ht⟩ | ⟨l, r, h1, h2, hr, ht⟩
  · rw [hr] at c0 c1 c2 c3 c4
    rw [ht]
    exact ref11_plain_letter hn hG.few lb c0 c1 c2 c3 c4
  · rw [hr] at c0 c1 c2 c3 c4
    rw [ht, List.length_append] at hl
    rw [ht]
    exact ref11_plain_pair hn hG.few lb c0 c1 c2 c3 c4 h1 h2 (hG.pos (r + 1) r (by omega) (by omega)) hl
     (Lib.hid fun W hW => ref11_plain hG m l (by omega) (by omega) W (hA.kept0 hW) (by omega))
     (Lib.hid fun W hW => ref11_plain hG m r (by omega) (by omega) W (hA.kept0 hW) (by omega))
def lastT (tx : Nat → List Int) : Nat → List Int
 | 0 => []
 | k + 1 => tx k
def PnPost (w : World) (t : List Int) (e : Ending) (w' : World) : Prop := ∃ v, e = .returned (.tuple #[v, .bool true]) ∧ OwnB w w' v t
set_option maxRecDepth 100000 in
set_option maxHeartbeats 1000000 in
theorem ref11_plain_none (a : Option Addr) (n cap : Nat) (w : World) :
    Calls Tryz.prog 57 #[.slice a n cap, .int .i64 0] w fun e w' => e = .returned (.slice none 0 0) ∧ w = w' := by
 go_enter Tryz.func57, Tryz.ntmps57
 go_wp2_with fail
 go_ret
 exact ⟨rfl, rfl⟩
set_option maxRecDepth 100000 in
set_option maxHeartbeats 1000000 in
theorem ref11_Plain {w : World} {a : Option Addr} {cap : Nat} {rs : List Rl} {tx : Nat → List Int} (hA : RulesAt w a rs) (hG : Gram rs tx) (hl : (lastT tx rs.length).length ≤ 4096) :
    Calls Tryz.prog 41 #[.slice a rs.length cap, .int .i64 rs.length] w (PnPost w (lastT tx rs.length)) := by
 have CL := Lib.hid (ref11_Lengths (cap := cap) hA hG)
 have hfew := hG.few
 cases hN : rs.length with
 | zero =>
  rw [hN] at CL
  have CP := Lib.hid (fun W => ref11_plain_none a 0 cap W)
  clear hA hG hl
  go_enter Tryz.func41, Tryz.ntmps41
  go_wp2_with fail
  refine CL.out.mono ?_
  rintro e w1 ⟨v, rfl, hO⟩
  obtain ⟨ga, gcap, rfl, hI⟩ := ints_of_own hO.row (by decide) (by decide)
  rw [lensT_len]
  have HF := Lib.hid hO.fr
  clear hO hI
  go_wp2_with fail
  refine (CP.out _).mono ?_
  rintro e w' ⟨rfl, rfl⟩
  go_wp2_with fail
  go_ret2
  exact ⟨_, rfl, World.ownsRow_nil _ _ _ _, HF.out⟩
 | succ n =>
  rw [hN] at CL hl
  have CP := Lib.hid (fun W hW => ref11_plain hG (cap := cap) (n + 1) n (by omega) (by omega) W (hA.kept0 hW) hl)
  rw [hN] at CP
  have hlI : ((lastT tx (n + 1)).length : Int) ≤ 4096 := by omega
  have HLL : Hid (lastT tx (n + 1) = tx n) := rfl
  clear hA hG hl
  go_enter Tryz.func41, Tryz.ntmps41
  go_wp2_with fail
  refine CL.out.mono ?_
  rintro e w1 ⟨v, rfl, hO⟩
  obtain ⟨ga, gcap, rfl, hI⟩ := ints_of_own hO.row (by decide) (by decide)
  obtain ⟨gb, goff, rfl, lgb, hcl⟩ := hI.cell n (by rw [lensT_len]; omega)
  rw [lensT_at] at hcl
  rw [lensT_len]
  have HF := Lib.hid hO.fr
  rw [HLL.out] at hlI
  have e1 := IntWalk.i64_in (n : Int) (by omega)
  have hn2 : (n : Int) < ((n + 1 : Nat) : Int) := by omega
  generalize ((tx n).length : Int) = ln at *
  clear hO hI
  go_wp2_with fail
  refine (CP.out _ HF.out).mono ?_
  rintro e w2 ⟨g, cap2, rfl, hO2⟩
  have HX : Hid (OwnB w w2 (.slice (some ⟨g, 0, none⟩) (tx n).length cap2) (tx n)) := ⟨owns_base hO2.row HF.out.size', HF.out.trans hO2.fr⟩
  clear hO2
  go_wp2_with fail
  go_ret2
  exact ⟨_, rfl, HX.out⟩
end Go.Proofs.YtbhidkmhlfggfaaGreatDoor
/- Plain words: the exported rules of a balanced ID are a grammar of its text. No program. -/
set_option linter.unusedSimpArgs false
set_option linter.unusedVariables false
namespace Go.Proofs.YtbhidkmhlfggfaaGreatDoor
open Go.RowKit
theorem reach_even {L : List Ent} (hd : DOk L) {id : Int} (hk : isKnown L id) (he : (entAt L id).even = true) (h0 : id ≠ 0) {out : List Int} (ho : Outs L id out) : ∀ x ∈ out, isKnown L x ∧ x ≠ 0 ∧ (entAt L x).even = true := by
 intro x hx
 refine ho.least x hx (fun z => isKnown L z ∧ z ≠ 0 ∧ (entAt L z).even = true) ⟨hk, h0, he⟩ ?_
 rintro z ⟨k1, k2, k3⟩ y hy
 have hb := k1.2
 rcases hd.at z k1 k2 with ⟨g1, g2⟩ | ⟨g1, g2, g3⟩ | ⟨g1, g2, g3⟩
 · unfold refsR at hy
   rw [if_neg (by omega), if_neg (by omega)] at hy
   simp at hy
 · unfold refsR at hy
   rw [if_pos g1] at hy
   rw [g3] at k3
   simp only [pairEnt, Bool.and_eq_true] at k3
   simp only [List.mem_cons, List.not_mem_nil, or_false] at hy
   rcases hy with rfl | rfl
   · exact ⟨⟨by omega, by omega⟩, by omega, k3.1.1.1⟩
   · exact ⟨⟨by omega, by omega⟩, by omega, k3.1.1.2⟩
 · rw [g3] at k3
   cases k3
theorem getD_at {l : List Int} {i : Nat} (h : i < l.length) : l.getD i 0 = l[i] := by rw [List.getD_eq_getElem?_getD, List.getElem?_eq_getElem h]; rfl
theorem take_at {l : List Int} {k : Nat} {x : Int} (h : x ∈ l.take k) : ∃ j, ∃ hj : j < l.length, j < k ∧ l[j] = x := by
 obtain ⟨j, hj, rfl⟩ := List.mem_iff_getElem.1 h
 have hj2 : j < k ∧ j < l.length := by rw [List.length_take] at hj; omega
 exact ⟨j, hj2.2, hj2.1, List.getElem_take.symm⟩
theorem expo_gram {L : List Ent} (hd : DOk L) (hs : SOk L) (hbig : L.length ≤ 1000000) {id : Int} {t : List Int} {d : Int} (hb : Bal L id t d) {out : List Int} (ho : Outs L id out) : Gram (expo L out) (fun i => txt L (out.getD i 0)) := by
 have he := reach_even hd hb.known hb.even hb.ne ho
 have hel : (expo L out).length = out.length := by simp [expo]
 have n0 : (0 : Int) ∉ out := fun hm => by have := ho.rng 0 hm; omega
 refine ⟨fun i hi => ?_, fun i hi => ?_, ?_⟩
 · have hi' : i < out.length := by omega
   have hx := he out[i] (List.getElem_mem hi')
   have hr : (expo L out)[i] = renum out (entAt L out[i]).rule := by simp [expo]
   rw [hr]
   show (∃ c : Int, _ ∧ txt L (out.getD i 0) = [c]) ∨ (∃ l r : Nat, l < i ∧ r < i ∧ _ ∧ txt L (out.getD i 0) = txt L (out.getD l 0) ++ txt L (out.getD r 0))
   rw [getD_at hi']
   rcases hd.at out[i] hx.1 hx.2.1 with ⟨g1, g2⟩ | ⟨g1, g2, g3⟩ | ⟨g1, g2, g3⟩
   · left
     refine ⟨(entAt L out[i]).rule.letter, ?_, txt_letter hx.1 hx.2.1 g1⟩
     have hru := congrArg (fun e => e.rule) g2
     generalize (entAt L out[i]).rule = r at *
     dsimp only [letterEnt] at hru
     rw [hru]
     unfold renum
     rw [numIn_none n0]
   · right
     have hru := congrArg (fun e => e.rule) g3
     have ml : (entAt L out[i]).rule.left ∈ out := ho.closed _ (List.getElem_mem hi') _ (by unfold refsR; rw [if_pos g1]; simp)
     have mr : (entAt L out[i]).rule.right ∈ out := ho.closed _ (List.getElem_mem hi') _ (by unfold refsR; rw [if_pos g1]; simp)
     obtain ⟨l, hl, hli, el⟩ := take_at (before_mem ho.sorted hi' ml g2.2.1)
     obtain ⟨r, hr', hri, er⟩ := take_at (before_mem ho.sorted hi' mr g2.2.2.2)
     refine ⟨l, r, hli, hri, ?_, ?_⟩
     · have nl := numIn_get ho.nodup l hl
       have nr := numIn_get ho.nodup r hr'
       rw [el] at nl
       rw [er] at nr
       generalize (entAt L out[i]).rule = q at *
       dsimp only [pairEnt] at hru
       rw [hru]
       unfold renum
       dsimp only
       rw [nl, nr]
     · rw [txt_pair hd hx.1 hx.2.1 g1, getD_at hl, getD_at hr', el, er]
   · have := hx.2.2
     rw [g3] at this
     cases this
 · have hi' : i < out.length := by omega
   have hx := he out[i] (List.getElem_mem hi')
   show ((txt L (out.getD i 0)).length : Int) ≤ _
   rw [getD_at hi', bal_len hd hs _ _ (Nat.le_refl _) hx.1 hx.2.2]
   exact (hs.at _ hx.1).1.len1
 · have h1 := nodup_le id.toNat out ho.nodup (fun x hx => by have := ho.rng x hx; omega)
   have := hb.known.2
   omega
theorem expo_last {L : List Ent} {id : Int} {t : List Int} {d : Int} (hb : Bal L id t d) {out : List Int} (ho : Outs L id out) : lastT (fun i => txt L (out.getD i 0)) (expo L out).length = t := by
 have hel : (expo L out).length = out.length := by simp [expo]
 obtain ⟨j, hj, ej⟩ := List.mem_iff_getElem.1 ho.mem
 have hj1 : out.length = j + 1 := by
  rcases Nat.lt_or_ge (j + 1) out.length with h | h
  · have h1 := List.pairwise_iff_getElem.1 ho.sorted j (j + 1) hj h (by omega)
    have h2 := ho.rng out[j + 1] (List.getElem_mem h)
    omega
  · omega
 rw [hel, hj1]
 show txt L (out.getD j 0) = t
 rw [getD_at hj, ej]
 exact hb.text
end Go.Proofs.YtbhidkmhlfggfaaGreatDoor
/- The walk of evergreenlaw37.Plain. -/
set_option linter.unusedSimpArgs false
set_option linter.unusedVariables false
namespace Go.Proofs.YtbhidkmhlfggfaaGreatDoor
open Go.RowKit
theorem conv_str {w0 w : World} {v : Value} {t : List Int} (h : OwnB w0 w v t) (W : World) (hW : Fr0 w W) : (convert 58 9 v).run Tryz.prog W = .ok (.string (strOfNums t)) W := by
 have h := h.kept0 hW
 rcases h.row.2 with ⟨e1, e2⟩ | ⟨g, cap, cur, e1, _, hg, _, _, _, ht⟩
 · have : t = [] := List.eq_nil_of_length_eq_zero e2
   subst this
   rw [e1]
   exact run_convert_bytes_nil W 58 5 Tryz.underlying58 Tryz.underlying5 0 0 9 Tryz.underlying9
 · rw [e1]
   refine run_convert_bytes_arg W 58 5 Tryz.underlying58 Tryz.underlying5 g 0 t.length cap t rfl ?_ 9 Tryz.underlying9
   intro i hi
   have h1 := congrArg (fun l => l[i]?) ht
   simp only [Nat.mul_one, List.getElem?_map, List.getElem?_eq_getElem hi, Option.map_some] at h1
   rw [List.getElem?_take_of_lt hi] at h1
   rw [cell_of_block hg, Nat.zero_add, ← Array.getElem?_toList, h1, getD_at hi]
set_option maxRecDepth 100000 in
set_option maxHeartbeats 1000000 in
theorem law37_Plain {B : Nat} {w : World} {p mb : Nat} {most : Int} {L : List Ent} (hS : Sto B w p mb most L) (hO : SOk L) (hD : DOk L) (hBig : L.length ≤ 1000000) {id : Int} {t : List Int} {d : Int} (hb : BalZ L id t d) (hl : t.length ≤ 4096) :
    Calls Tryz.prog 24 #[.pointer (some ⟨p, 0, none⟩), .int .i64 id] w fun e w' => e = .returned (.tuple #[.string (strOfNums t), .bool true]) ∧ Fr0 w w' := by
 have CE := Lib.hid (st_Export hS hD hBig id hb.known)
 have CB := Lib.hid (fun W (hW : Fr0 w W) => sto_Balanced (hS.kept0 hW) id hb.known true hb.even)
 have HG : Hid (∀ rs, ((id = 0 ∧ rs = []) ∨ (id ≠ 0 ∧ ∃ out, Outs L id out ∧ rs = expo L out)) → ∃ tx, Gram rs tx ∧ lastT tx rs.length = t) := by
  intro rs h
  rcases h with ⟨h1, rfl⟩ | ⟨h1, out, h2, rfl⟩
  · exact ⟨fun _ => [], ⟨fun i hi => by simp at hi, fun i hi => by simp at hi, by simp⟩, (hb.of0 h1).1.symm⟩
  · exact ⟨_, expo_gram hD hO hBig (hb.bal h1) h2, expo_last (hb.bal h1) h2⟩
 clear hS hO hD hb
 go_enter Tryz.func24, Tryz.ntmps24
 go_wp2_with fail
 refine CE.out.mono ?_
 rintro e w1 ⟨rs, v, rfl, hR, hc⟩
 obtain ⟨tx, hG, hT⟩ := HG.out rs hc
 obtain ⟨a, cap, rfl, hA⟩ := rules_of_own hR
 have CP := Lib.hid (ref11_Plain (cap := cap) hA hG (by rw [hT]; exact hl))
 rw [hT] at CP
 have HF1 := Lib.hid hR.fr
 clear hc hG hT hA hR CE HG
 go_wp2_with fail
 refine CP.out.mono ?_
 rintro e w2 ⟨u, rfl, hU⟩
 have HF2 := Lib.hid (HF1.out.trans hU.fr)
 have HU := Lib.hid hU
 clear hU CP HF1
 go_wp2_with fail
 refine (CB.out _ HF2.out).mono ?_
 rintro e w3 ⟨rfl, hf3⟩
 have hcv : ∀ n, (convert 58 9 u).run Tryz.prog (w3.drewN n) = .ok (.string (strOfNums t)) (w3.drewN n) := fun n => conv_str HU.out _ (hf3.drewN n)
 have hcv1 := conv_str HU.out w3.drew hf3.drew
 have HF3 := Lib.hid (HF2.out.trans hf3)
 clear hf3 HU HF2
 go_wp2_with fail
 go_quiet (fail)
 clear hcv hcv1
 go_wp2_with fail
 go_ret2
 exact ⟨rfl, HF3.out.drewN _⟩
end Go.Proofs.YtbhidkmhlfggfaaGreatDoor
/- The walk of evergreenlaw37.Store. -/
set_option linter.unusedSimpArgs false
set_option linter.unusedVariables false
namespace Go.Proofs.YtbhidkmhlfggfaaGreatDoor
open Go.RowKit
theorem Kp.all0 {mb : Nat} {w w1 w' : World} (h0 : Fr0 w w1) (h : Kp w.heap.size mb w1 w') : Fr0 w w' :=
 ⟨h.os.trans (Fr.os h0), h.tape.trans (Fr.tape h0), h.output.trans (Fr.output h0), Nat.le_trans (Fr.size h0) h.size, fun k hk hn => (h.low k hk (Nat.lt_of_lt_of_le hk (Fr.size h0))).trans (Fr.block h0 k hk hn)⟩
end Go.Proofs.YtbhidkmhlfggfaaGreatDoor
/- Laws of the statements about patches: one list of changes as an argument; lengths of patched texts. -/
set_option linter.unusedSimpArgs false
set_option linter.unusedVariables false
namespace Go.Proofs.YtbhidkmhlfggfaaGreatDoor
open Go.RowKit
theorem RG.fr0 {α : Type} {vals : α → List Value} {size B : Nat} {w w' : World} {a : Option Addr} {xs : List α} (h : RG vals size B w a xs) (hf : Fr0 w w') : RG vals size B w' a xs := h.kept0 hf
end Go.Proofs.YtbhidkmhlfggfaaGreatDoor
/- The walks of evergreenlaw37.From and of evergreenref37.Same at equal lists. -/
set_option linter.unusedSimpArgs false
set_option linter.unusedVariables false
namespace Go.Proofs.YtbhidkmhlfggfaaGreatDoor
open Go.RowKit
def PC.ps (c : PC) : PS := ⟨c.at_, c.n, strOfNums c.text⟩
theorem info_ps : (Tryz.prog.info? 62).map (fun i => (i.zero, i.size, i.bytes)) = some (some (.agg #[.int .i64 0, .int .i64 0, .string ByteArray.empty]), 3, 32) := by kernel_rfl
theorem rt_ps : RT 22 62 3 32 := by
 obtain ⟨i, h1, h2, h3, h4⟩ := info_parts info_ps
 exact ⟨by omega, i, _, Tryz.underlying22, h1, h2, h3, h4, rfl⟩
set_option maxRecDepth 100000 in
set_option maxHeartbeats 2000000 in
theorem law37_From {B : Nat} {w : World} {p mb : Nat} {most : Int} {L : List Ent} (hS : Sto B w p mb most L) (hO : SOk L) (hD : DOk L) (hBig : L.length ≤ 1000000) {ps : List PC} {cs : List Chg} {a : Option Addr} {cap : Nat} (hC : RG Chg.vals 3 B w a cs) (hP : PChg L cs ps) (hl : cs.length ≤ 100000) (ht : ∀ c ∈ ps, c.text.length ≤ 4096) :
    Calls Tryz.prog 10 #[.pointer (some ⟨p, 0, none⟩), .slice a cs.length cap] w fun e w' => ∃ v, e = .returned (.tuple #[v, .bool true]) ∧ OwnG PS.vals 62 3 w w' v (ps.map PC.ps) := by
 have HCL := Lib.hid hP.len
 have HS := Lib.hid hS
 have HO := Lib.hid hO
 have HD := Lib.hid hD
 have HC := Lib.hid hC
 have HP := Lib.hid hP
 have HT := Lib.hid ht
 clear hS hO hD hC hP ht
 go_enter Tryz.func10, Tryz.ntmps10
 go_wp2_with fail
 go_loopw [6, 13] (fun v i wr => ∃ k : Nat, k ≤ cs.length ∧ i = .int .i64 k ∧ OwnG PS.vals 62 3 w wr v ((ps.take k).map PC.ps)) (fun _ i _ => cs.length - (intOf i).toNat)
 case atStart => exact ⟨0, Nat.zero_le _, rfl, OwnG.nil _ _ _ (Fr0.refl w)⟩
 case round =>
  obtain ⟨k, hk, rfl, hO1⟩ := hrel
  by_cases hlt : k < cs.length
  · have hlt2 : k < ps.length := by have := HCL.out; omega
    obtain ⟨b, off, rfl, lb, _, hc⟩ := (HC.out.kept0 hO1.fr) k hlt
    have c0 := hc 0 _ rfl
    have c1 := hc 1 _ rfl
    have c2 := hc 2 _ rfl
    rw [Nat.add_zero] at c0
    obtain ⟨g1, g2, dx, hbx⟩ := HP.out.get k hlt hlt2
    have CP := Lib.hid (fun W (hW : Fr0 wr W) => law37_Plain (HS.out.kept0 (hO1.fr.trans hW)) HO.out HD.out hBig hbx (HT.out _ (List.getElem_mem _)))
    have HTK : Hid ((ps.take (k + 1)).map PC.ps = (ps.take k).map PC.ps ++ [⟨cs[k].at_, cs[k].n, strOfNums ps[k].text⟩]) := by
     show _ = _
     rw [List.take_succ_eq_append_getElem hlt2, List.map_append, g1, g2]; rfl
    have HO1 := Lib.hid hO1
    have hxl : ((ps.take k).map PC.ps).length ≤ 1000000 := by rw [List.length_map, List.length_take]; omega
    clear hc g1 g2 hbx HC HS HO HD HP HT hO1
    generalize cs[k] = c at *
    generalize strOfNums ps[k].text = tx at *
    generalize (ps.take k).map PC.ps = xs at *
    go_wp2_with fail
    refine (CP.out _ ((Fr0.refl wr).alloc _)).mono ?_
    rintro e w3 ⟨rfl, f3⟩
    have hr3 := f3.kept (b := wr.heap.size) (alloc_at wr _ _ rfl)
    have F3 := ((Fr0.refl wr).alloc (.cells #[.int .i64 c.at_, .int .i64 c.n, .int .i64 c.text] 75 (0, 0))).trans f3
    obtain ⟨e0, e1, e2, _, le⟩ := cells3 hr3
    have hrow := F3.owns HO1.out.row
    have hbs : w.heap.size ≤ w3.heap.size := Fr.size (HO1.out.fr.trans F3)
    clear f3 hr3 CP
    go_wp2_with (at_builtin; refine wpList_pushG (vals := PS.vals) rt_ps rfl _ _ rfl w.heap.size _ xs rfl hrow hbs 62 ⟨c.at_, c.n, tx⟩ #[.int .i64 c.at_, .int .i64 c.n, .string tx] rfl rfl (by simp [PS.vals, Value.oneCell']) 1 _ rfl rfl (by omega) hxl ?_; intro v' w4 hO4 hg4 hat4)
    have hX := HO1.out.grown (F3.alloc _) hO4 hg4
    go_roundw
    case rel => exact ⟨k + 1, by omega, by go_num, by rw [HTK.out]; exact hX⟩
    case measure => simp [intOf]; omega
  · have hke : ps.take k = ps := List.take_of_length_le (by have := HCL.out; omega)
    rw [hke] at hO1
    have HO1 := Lib.hid hO1
    clear hO1 hke HC HS HO HD HP HT
    go_wp2_with fail
    go_ret2
    exact ⟨_, rfl, HO1.out⟩
set_option maxRecDepth 100000 in
set_option maxHeartbeats 1000000 in
theorem ref37_Same {B B' : Nat} {w : World} {a b : Option Addr} {cap cap' : Nat} {ps : List PS} (hA : RG PS.vals 3 B w a ps) (hB : RG PS.vals 3 B' w b ps) (hl : ps.length ≤ 1000000) :
    Calls Tryz.prog 12 #[.slice a ps.length cap, .slice b ps.length cap'] w fun e w' => e = .returned (.bool true) ∧ Fr0 w w' := by
 have HA := Lib.hid hA
 have HB := Lib.hid hB
 clear hA hB
 go_enter Tryz.func12, Tryz.ntmps12
 go_wp2_with fail
 go_loopw [13] (fun i wr => ∃ k : Nat, k ≤ ps.length ∧ i = .int .i64 k ∧ Fr0 w wr) (fun i _ => ps.length - (intOf i).toNat)
 case atStart => exact ⟨0, Nat.zero_le _, rfl, Fr0.refl w⟩
 case round =>
  obtain ⟨k, hk, rfl, hfr⟩ := hrel
  by_cases hlt : k < ps.length
  · obtain ⟨b1, off1, rfl, lb1, _, hc1⟩ := (HA.out.kept0 hfr) k hlt
    obtain ⟨b2, off2, rfl, lb2, _, hc2⟩ := (HB.out.kept0 hfr) k hlt
    have c0 := hc1 0 _ rfl
    have c1 := hc1 1 _ rfl
    have c2 := hc1 2 _ rfl
    rw [Nat.add_zero] at c0
    have d0 := hc2 0 _ rfl
    have d1 := hc2 1 _ rfl
    have d2 := hc2 2 _ rfl
    rw [Nat.add_zero] at d0
    clear hc1 hc2 HA HB
    generalize ps[k] = c at *
    go_upto_region 6 with fail
    go_quiet (fail)
    go_wp2_with fail
    go_roundw
    case rel => exact ⟨k + 1, by omega, by go_num, hfr.drewN _⟩
    case measure => simp [intOf]; omega
  · go_wp2_with fail
    go_ret
    exact ⟨rfl, hfr⟩
end Go.Proofs.YtbhidkmhlfggfaaGreatDoor

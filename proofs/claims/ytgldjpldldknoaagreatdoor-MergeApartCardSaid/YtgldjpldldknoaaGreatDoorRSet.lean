/- A map from IDs to true, held exactly. -/
import Derived.Test.YtgldjpldldknoaaGreatDoorRSt5
import Derived.Laws.BytesArg
import Derived.Laws.IdiomStrings
import Derived.Test.YtgldjpldldknoaaGreatDoorRMap
import Derived.Deep.LoopGhost
import Derived.Deep.DeepCutAuto
set_option linter.unusedSimpArgs false
set_option linter.unusedVariables false
namespace Go.Proofs.YtgldjpldldknoaaGreatDoor
open Go.RowKit
def idEntries : Nat → List Int → List MapEntry
 | _, [] => []
 | i, x :: r => { key := .int .i64 x, val := .bool true, born := i } :: idEntries (i + 1) r
theorem idEntries_push (x : Int) : ∀ (xs : List Int) (i : Nat), idEntries i (xs ++ [x]) = idEntries i xs ++ [{ key := .int .i64 x, val := .bool true, born := i + xs.length }] := by
 intro xs
 induction xs with
 | nil => intro i; simp [idEntries]
 | cons y r ih =>
  intro i
  simp only [List.cons_append, idEntries, ih (i + 1), List.length_cons]
  rw [show i + 1 + r.length = i + (r.length + 1) by omega]
theorem findNow_ids (x : Int) : ∀ (xs : List Int) (i j : Nat), Instr.findNow (.int .i64) (.int .i64 x) (idEntries i xs) j = some (if x ∈ xs then some (j + xs.findIdx (· == x), .bool true) else none) := by
 intro xs
 induction xs with
 | nil => intro i j; simp [idEntries, Instr.findNow]
 | cons y r ih =>
  intro i j
  simp only [idEntries, Instr.findNow, Instr.sameNow, if_true]
  by_cases h : x = y
  · subst h; simp [List.findIdx_cons]
  · have h1 : (x == y) = false := by simpa using h
    have h2 : (y == x) = false := by simpa using Ne.symm h
    simp only [h1, ih (i + 1) (j + 1), List.mem_cons, h, false_or, List.findIdx_cons, h2, cond_false]
    split
    · rw [show j + 1 + r.findIdx (· == x) = j + (r.findIdx (· == x) + 1) by omega]
    · rfl
theorem run_findIds (x : Int) (xs : List Int) (w : World) : (Instr.findKey 28 (.int .i64 x) (idEntries 0 xs)).run Tryz.prog w = .ok (if x ∈ xs then some (xs.findIdx (· == x), .bool true) else none) w := by
 have h := findNow_ids x xs 0 0
 rw [Nat.zero_add] at h
 simp [Instr.findKey, go_sem, h]
theorem id_check (em : Bool) (x : Int) (w : World) : (Instr.checkKey em 10000 28 (.int .i64 x)).run Tryz.prog w = .ok () w := by
 have h : ∀ d, (Instr.checkKey em (d + 1) 28 (.int .i64 x)).run Tryz.prog w = .ok () w := fun d => by simp [Instr.checkKey, go_sem]
 exact h 9999
theorem run_lookup_id {mb : Nat} {xs : List Int} {c : Nat} (x : Int) (w : World) (hm : w.heap[mb]? = some (.map (idEntries 0 xs).toArray c)) :
    (Instr.lookup 140 (.map (some mb)) (.int .i64 x) false).run Tryz.prog w = .ok (.bool (decide (x ∈ xs))) w := by
 have h1 := run_findIds x xs w
 by_cases hx : x ∈ xs
 · rw [if_pos hx] at h1
   simp [Instr.lookup, go_sem, getObj, Sem.run, hm, id_check, h1, hx]
 · rw [if_neg hx] at h1
   simp [Instr.lookup, go_sem, getObj, Sem.run, hm, id_check, h1, hx]
theorem run_update_id {mb : Nat} {xs : List Int} (x : Int) (w : World) (hm : w.heap[mb]? = some (.map (idEntries 0 xs).toArray xs.length)) (hx : x ∉ xs) :
    (Instr.mapUpdate 140 (.map (some mb)) (.int .i64 x) (.bool true)).run Tryz.prog w = .ok () (setB w mb (.map (idEntries 0 (xs ++ [x])).toArray (xs ++ [x]).length)) := by
 have h1 := run_findIds x xs w
 rw [if_neg hx] at h1
 rw [idEntries_push]
 simp [Instr.mapUpdate, go_sem, getObj, setObj, Sem.run, hm, id_check, h1, setB]
end Go.Proofs.YtgldjpldldknoaaGreatDoor
/- Changes in memory, and the walk of patch.balanced. -/
set_option linter.unusedSimpArgs false
set_option linter.unusedVariables false
namespace Go.Proofs.YtgldjpldldknoaaGreatDoor
open Go.RowKit
structure Chg where
 at_ : Int
 n : Int
 text : Int
def ChgsAt (w : World) (a : Option Addr) (cs : List Chg) : Prop :=
 ∀ i (h : i < cs.length), ∃ b off, a = some ⟨b, off, none⟩ ∧ b < w.heap.size ∧ w.cell? ⟨b, off + i * 3, none⟩ = some (.int .i64 cs[i].at_) ∧ w.cell? ⟨b, off + i * 3 + 1, none⟩ = some (.int .i64 cs[i].n) ∧ w.cell? ⟨b, off + i * 3 + 2, none⟩ = some (.int .i64 cs[i].text)
theorem ChgsAt.kept0 {w w' : World} {a : Option Addr} {cs : List Chg} (h : ChgsAt w a cs) (hf : Fr0 w w') : ChgsAt w' a cs := by
 intro i hi
 obtain ⟨b, off, h1, h2, h3, h4, h5⟩ := h i hi
 exact ⟨b, off, h1, by have := hf.size'; omega, (hf.cell b _ h2).trans h3, (hf.cell b _ h2).trans h4, (hf.cell b _ h2).trans h5⟩
set_option maxRecDepth 100000 in
set_option maxHeartbeats 1000000 in
theorem pat_balanced_ok {w : World} {p mb : Nat} {most : Int} {sv : Value} {L : List Ent} (hS : St w p mb most sv L) (a : Option Addr) (cap : Nat) (cs : List Chg) (hc : ChgsAt w a cs) (hl : cs.length ≤ 1000000) (hk : ∀ c ∈ cs, isKnown L c.text ∧ (entAt L c.text).even = true) :
    Calls Tryz.prog 49 #[.pointer (some ⟨p, 0, none⟩), .slice a cs.length cap] w fun e w' => e = .returned .nilIface ∧ Fr0 w w' := by
 have hmm := @run_makeMap Tryz.prog
 have HC := Lib.hid hc
 have HS := Lib.hid hS
 have HK := Lib.hid hk
 clear hc hS hk
 go_enter Tryz.func49, Tryz.ntmps49
 go_wp2_with fail
 clear hmm
 obtain ⟨M, hM⟩ : ∃ M, M = w.heap.size := ⟨_, rfl⟩
 rw [← hM]
 have HM := Lib.hid hM
 clear hM
 go_loopw [13] (fun i wr => ∃ (k : Nat) (xs : List Int), k ≤ cs.length ∧ i = .int .i64 k ∧ Fr0 w wr ∧ wr.heap[M]? = some (.map (idEntries 0 xs).toArray xs.length)) (fun i _ => cs.length - (intOf i).toNat)
 case atStart => exact ⟨0, [], Nat.zero_le _, rfl, (Fr0.refl w).alloc _, alloc_at _ _ _ HM.out⟩
 case round =>
  obtain ⟨k, xs, hk, rfl, hfr, hm⟩ := hrel
  by_cases hlt : k < cs.length
  · obtain ⟨b, off, hab, lb, d0, d1, d2⟩ := (HC.out.kept0 hfr) k hlt
    obtain ⟨k1, k2⟩ := HK.out cs[k] (List.getElem_mem _)
    subst hab
    generalize cs[k] = c at *
    have hlk := fun (o : Obj) => run_lookup_id c.text (wr.alloc o) ((alloc_lt _ _ _ (lt_of_block hm)).trans hm)
    have lM := lt_of_block hm
    have HMM := Lib.hid hm
    clear hm
    by_cases hx : c.text ∈ xs
    · simp only [hx, decide_true] at hlk
      go_wp2_with fail
      go_roundw
      case rel => exact ⟨k + 1, xs, by omega, by go_num, hfr.alloc _, (alloc_lt _ _ _ lM).trans HMM.out⟩
      case measure => simp [intOf]; omega
    · simp only [hx, decide_false] at hlk
      go_wp2_with fail
      refine (avl_Balanced (HS.out.kept0 (hfr.alloc _)) c.text k1).mono ?_
      rintro e w2 ⟨rfl, hf2⟩
      rw [k2]
      have hm2 := hf2.kept ((alloc_lt _ _ _ lM).trans HMM.out)
      have hup := run_update_id c.text w2 hm2 hx
      have d2' : w2.cell? ⟨wr.heap.size, 2, none⟩ = some (.int .i64 c.text) := (hf2.cell _ _ (by simp)).trans (by rw [cell_of_block (alloc_at _ _ _ rfl)]; rfl)
      have lM2 := lt_of_block hm2
      generalize hW3 : setB w2 M (.map (idEntries 0 (xs ++ [c.text])).toArray (xs ++ [c.text]).length) = W3 at *
      have HW3 := Lib.hid hW3
      clear hW3 hm2 hlk
      have hf02 : Fr0 w w2 := (hfr.alloc _).trans hf2
      go_wp2_with fail
      go_roundw
      case rel =>
       refine ⟨k + 1, xs ++ [c.text], by omega, by go_num, ?_, ?_⟩
       · rw [← HW3.out]; exact Fr.setB hf02 M _ (fun h => by have := HM.out; omega)
       · rw [← HW3.out]; exact setB_same lM2
      case measure => simp [intOf]; omega
  · go_wp2_with fail
    go_ret
    exact ⟨rfl, hfr⟩
end Go.Proofs.YtgldjpldldknoaaGreatDoor
/- The walk of patch.Check. -/
set_option linter.unusedSimpArgs false
set_option linter.unusedVariables false
namespace Go.Proofs.YtgldjpldldknoaaGreatDoor
open Go.RowKit
def fitPB (length last : Int) (c : Chg) : Bool := decide (0 ≤ c.at_ ∧ 0 ≤ c.n ∧ c.at_ + c.n ≤ length ∧ last < c.at_ ∧ ¬ (c.n = 0 ∧ c.text = 0))
def formedFrom (length : Int) : Int → List Chg → Bool
 | _, [] => true
 | last, c :: r => fitPB length last c && formedFrom length (c.at_ + c.n) r
end Go.Proofs.YtgldjpldldknoaaGreatDoor
/- The walk of patch.Check where every text is known. -/
set_option linter.unusedSimpArgs false
set_option linter.unusedVariables false
namespace Go.Proofs.YtgldjpldldknoaaGreatDoor
open Go.RowKit
theorem fitB_true {length last : Int} {c : Chg} (h : fitPB length last c = true) : 0 ≤ c.at_ ∧ 0 ≤ c.n ∧ c.at_ + c.n ≤ length ∧ last < c.at_ ∧ ¬ (c.n = 0 ∧ c.text = 0) := by
 exact of_decide_eq_true h
theorem formed_drop {length last : Int} {cs : List Chg} {k : Nat} (h : k < cs.length) {b : Bool} (hf : formedFrom length last (cs.drop k) = b) : (fitPB length last cs[k] && formedFrom length (cs[k].at_ + cs[k].n) (cs.drop (k + 1))) = b := by
 rw [List.drop_eq_getElem_cons h] at hf
 exact hf
set_option maxRecDepth 100000 in
set_option maxHeartbeats 2000000 in
theorem pat_Check_formed {w : World} {p mb : Nat} {most : Int} {sv : Value} {L : List Ent} (hS : St w p mb most sv L) (length : Int) (h0 : 0 ≤ length) (h1 : length ≤ 1152921504606846976) (a : Option Addr) (cap : Nat) (cs : List Chg) (hc : ChgsAt w a cs) (hl : cs.length ≤ 1000000) (hk : ∀ c ∈ cs, isKnown L c.text)
    (hfm : formedFrom length (-1) cs = true) (R : Value) (hB : ∀ W, Fr0 w W → Calls Tryz.prog 49 #[.pointer (some ⟨p, 0, none⟩), .slice a cs.length cap] W fun e w' => e = .returned R ∧ Fr0 W w') :
    Calls Tryz.prog 28 #[.pointer (some ⟨p, 0, none⟩), .int .i64 length, .slice a cs.length cap] w fun e w' => e = .returned R ∧ Fr0 w w' := by
 have CV := Lib.hid (len_Valid_yes length w h0 h1)
 have HC := Lib.hid hc
 have HS := Lib.hid hS
 have HK := Lib.hid hk
 have HF := Lib.hid hfm
 have HB := Lib.hid hB
 clear hc hS hk hfm hB
 go_enter Tryz.func28, Tryz.ntmps28
 go_wp2_with fail
 refine CV.out.mono ?_
 rintro e w' ⟨rfl, rfl⟩
 go_wp2_with fail
 go_loopw [21] (fun i wr => ∃ (k : Nat), k ≤ cs.length ∧ i = .int .i64 k ∧ Fr0 w wr) (fun i _ => cs.length - (intOf i).toNat)
 case atStart => exact ⟨0, Nat.zero_le _, rfl, Fr0.refl w⟩
 case round =>
  obtain ⟨k, hk, rfl, hfr⟩ := hrel
  by_cases hlt : k < cs.length
  · obtain ⟨b, off, hab, lb, d0, d1, d2⟩ := (HC.out.kept0 hfr) k hlt
    have hkn := HK.out cs[k] (List.getElem_mem _)
    subst hab
    generalize cs[k] = c at *
    have CU := Lib.hid (fun W (hf : Fr0 wr W) => patch_unknown (HS.out.kept0 (hfr.trans hf)) c.text false (by obtain ⟨a1, a2⟩ := hkn; symm; simp; omega))
    clear hkn
    go_wp2_with fail
    refine (CU.out _ ((Fr0.refl wr).alloc _)).mono ?_
    rintro e w' ⟨rfl, rfl⟩
    go_wp2_with fail
    go_roundw
    case rel => exact ⟨k + 1, by omega, by go_num, hfr.alloc _⟩
    case measure => simp [intOf]; omega
  · go_wp2_with fail
    clear hlt hk
    obtain ⟨wo, rfl⟩ : ∃ wo : World, wo = wr := ⟨_, rfl⟩
    go_loopw [9, 33] (fun la i wr => ∃ (k : Nat) (last : Int), k ≤ cs.length ∧ i = .int .i64 k ∧ la = .int .i64 last ∧ Fr0 w wr ∧ Hid (formedFrom length last (cs.drop k) = true)) (fun _ i _ => cs.length - (intOf i).toNat)
    case atStart => exact ⟨0, -1, Nat.zero_le _, rfl, rfl, hfr, HF.out⟩
    case round =>
     clear hfr
     obtain ⟨k, last, hk, rfl, rfl, hfr, HFM⟩ := hrel
     by_cases hlt : k < cs.length
     · obtain ⟨b, off, hab, lb, d0, d1, d2⟩ := (HC.out.kept0 hfr) k hlt
       have hfd := formed_drop hlt HFM.out
       rw [Bool.and_eq_true] at hfd
       obtain ⟨hfit, hnx⟩ := hfd
       have HNX := Lib.hid hnx
       obtain ⟨t1, t2, t3, t4, t5⟩ := fitB_true hfit
       clear hnx hfit HFM
       subst hab
       generalize cs[k] = c at *
       have CR := Lib.hid (fun w => len_Range_ok c.at_ c.n length w t1 t2 t3 h1)
       have q1 : decide (c.at_ ≤ last) = false := decide_eq_false (by omega)
       by_cases hn : c.n = 0
       · have q2 : (c.text == 0) = false := by simp; exact fun h => t5 ⟨hn, h⟩
         have q3 : (c.n == 0) = true := by simpa using hn
         clear t5 hn
         go_wp2_with fail
         refine (CR.out _).mono ?_
         rintro e w' ⟨rfl, rfl⟩
         go_wp2_with fail
         go_roundw
         case rel => exact ⟨k + 1, c.at_ + c.n, by omega, by go_num, rfl, hfr.alloc _, HNX⟩
         case measure => simp [intOf]; omega
       · have q3 : (c.n == 0) = false := by simpa using hn
         clear t5 hn
         go_wp2_with fail
         refine (CR.out _).mono ?_
         rintro e w' ⟨rfl, rfl⟩
         go_wp2_with fail
         go_roundw
         case rel => exact ⟨k + 1, c.at_ + c.n, by omega, by go_num, rfl, hfr.alloc _, HNX⟩
         case measure => simp [intOf]; omega
     · go_wp2_with fail
       refine (HB.out _ hfr).mono ?_
       rintro e w2 ⟨rfl, hf2⟩
       go_wp2_with fail
       go_ret
       exact ⟨rfl, hfr.trans hf2⟩
end Go.Proofs.YtgldjpldldknoaaGreatDoor
/- The walk of patch.Length. -/
set_option linter.unusedSimpArgs false
set_option linter.unusedVariables false
namespace Go.Proofs.YtgldjpldldknoaaGreatDoor
open Go.RowKit
def sumN : List Chg → Int
 | [] => 0
 | c :: r => c.n + sumN r
def sumT (ln : Int → Int) : List Chg → Int
 | [] => 0
 | c :: r => ln c.text + sumT ln r
def lnL (L : List Ent) (id : Int) : Int := (entAt L id).wt.len
theorem sumN_snoc (cs : List Chg) (c : Chg) : sumN (cs ++ [c]) = sumN cs + c.n := by
 induction cs with
 | nil => simp [sumN]
 | cons x r ih => simp only [List.cons_append, sumN, ih]; omega
theorem sumT_snoc (ln : Int → Int) (cs : List Chg) (c : Chg) : sumT ln (cs ++ [c]) = sumT ln cs + ln c.text := by
 induction cs with
 | nil => simp [sumT]
 | cons x r ih => simp only [List.cons_append, sumT, ih]; omega
theorem sumT_split (ln : Int → Int) (cs ds : List Chg) : sumT ln (cs ++ ds) = sumT ln cs + sumT ln ds := by
 induction cs with
 | nil => simp [sumT]
 | cons x r ih => simp only [List.cons_append, sumT, ih]; omega
theorem sumT_nn {ln : Int → Int} {cs : List Chg} (h : ∀ c ∈ cs, 0 ≤ ln c.text) : 0 ≤ sumT ln cs := by
 induction cs with
 | nil => simp [sumT]
 | cons x r ih =>
  have := ih (fun c hc => h c (by simp [hc]))
  have := h x (by simp)
  simp only [sumT]; omega
theorem formed_take {length : Int} : ∀ (cs : List Chg) (last : Int) (k : Nat), formedFrom length last cs = true → formedFrom length last (cs.take k) = true
 | [], last, k, h => by simp [formedFrom]
 | c :: r, last, 0, h => by simp [formedFrom]
 | c :: r, last, k + 1, h => by
  unfold formedFrom at h
  rw [Bool.and_eq_true] at h
  rw [List.take_succ_cons]
  unfold formedFrom
  rw [Bool.and_eq_true]
  exact ⟨h.1, formed_take r _ k h.2⟩
theorem formed_sum' {length : Int} : ∀ (cs : List Chg) (last : Int), last ≤ length → formedFrom length last cs = true → sumN cs ≤ length - last
 | [], last, h0, h => by simp [sumN]; omega
 | c :: r, last, h0, h => by
  unfold formedFrom at h
  rw [Bool.and_eq_true] at h
  obtain ⟨t1, t2, t3, t4, t5⟩ := fitB_true h.1
  have := formed_sum' r _ t3 h.2
  simp only [sumN]; omega
theorem formed_sum {length : Int} (h0 : 0 ≤ length) : ∀ (cs : List Chg), formedFrom length (-1) cs = true → sumN cs ≤ length
 | [], h => by simp [sumN]; omega
 | c :: r, h => by
  unfold formedFrom at h
  rw [Bool.and_eq_true] at h
  obtain ⟨t1, t2, t3, t4, t5⟩ := fitB_true h.1
  have := formed_sum' r _ t3 h.2
  simp only [sumN]; omega
theorem formed_nn {length : Int} : ∀ (cs : List Chg) (last : Int), formedFrom length last cs = true → ∀ c ∈ cs, 0 ≤ c.n ∧ c.n ≤ length
 | [], last, h => by intro c hc; simp at hc
 | c :: r, last, h => by
  unfold formedFrom at h
  rw [Bool.and_eq_true] at h
  obtain ⟨t1, t2, t3, t4, t5⟩ := fitB_true h.1
  intro x hx
  rcases List.mem_cons.1 hx with rfl | hx
  · omega
  · exact formed_nn r _ h.2 x hx
theorem sumN_nn : ∀ {cs : List Chg}, (∀ c ∈ cs, 0 ≤ c.n) → 0 ≤ sumN cs
 | [], h => by simp [sumN]
 | c :: r, h => by
  have := sumN_nn (cs := r) (fun c hc => h c (by simp [hc]))
  have := h c (by simp)
  simp only [sumN]; omega
theorem patch_sizeL {w : World} {p mb : Nat} {most : Int} {sv : Value} {L : List Ent} (hS : St w p mb most sv L) (id : Int) (h : isKnown L id) :
    Calls Tryz.prog 29 #[.pointer (some ⟨p, 0, none⟩), .int .i64 id] w fun e w' => e = .returned (.tuple #[.int .i64 (lnL L id), .nilIface]) ∧ Fr0 w w' := patch_size hS id h
set_option maxRecDepth 100000 in
set_option maxHeartbeats 2000000 in
theorem pat_Length_ok {w : World} {p mb : Nat} {most : Int} {sv : Value} {L : List Ent} (hS : St w p mb most sv L) (hO : SOk L) (length : Int) (h0 : 0 ≤ length) (h1 : length ≤ 1152921504606846976) (a : Option Addr) (cap : Nat) (cs : List Chg) (hc : ChgsAt w a cs) (hl : cs.length ≤ 1000000) (hk : ∀ c ∈ cs, isKnown L c.text ∧ (entAt L c.text).even = true)
    (hfm : formedFrom length (-1) cs = true) (ht : length - sumN cs + sumT (lnL L) cs ≤ 1152921504606846976) :
    Calls Tryz.prog 13 #[.pointer (some ⟨p, 0, none⟩), .int .i64 length, .slice a cs.length cap] w fun e w' => e = .returned (.tuple #[.int .i64 (length - sumN cs + sumT (lnL L) cs), .nilIface]) ∧ Fr0 w w' := by
 have CK := Lib.hid (pat_Check_formed hS length h0 h1 a cap cs hc hl (fun c hc => (hk c hc).1) hfm .nilIface (fun W hW => pat_balanced_ok (hS.kept0 hW) a cap cs (hc.kept0 hW) hl hk))
 have HC := Lib.hid hc
 have HS := Lib.hid hS
 have HK := Lib.hid hk
 have HF := Lib.hid hfm
 have hnn : ∀ c ∈ cs, 0 ≤ lnL L c.text := fun c hc => (hO.at _ (hk c hc).1).1.len0
 have hN0 := formed_sum h0 cs hfm
 have hNN := Lib.hid (formed_nn cs _ hfm)
 have HNN := Lib.hid hnn
 have hsn := sumN_nn (fun c hc => (hNN.out c hc).1)
 clear hc hS hk hfm hO hnn
 obtain ⟨sN, hsN⟩ : ∃ s, sumN cs = s := ⟨_, rfl⟩
 obtain ⟨sT, hsT⟩ : ∃ s, sumT (lnL L) cs = s := ⟨_, rfl⟩
 rw [hsN] at hN0 hsn ht ⊢
 rw [hsT] at ht ⊢
 have HSN := Lib.hid hsN
 have HST := Lib.hid hsT
 clear hsN hsT
 go_enter Tryz.func13, Tryz.ntmps13
 go_wp2_with fail
 refine CK.out.mono ?_
 rintro e w1 ⟨rfl, hf1⟩
 go_wp2_with fail
 go_loopw [1, 24] (fun v i wr => ∃ (k : Nat), k ≤ cs.length ∧ i = .int .i64 k ∧ v = .int .i64 (length - sumN (cs.take k)) ∧ Fr0 w wr) (fun _ i _ => cs.length - (intOf i).toNat)
 case atStart => exact ⟨0, Nat.zero_le _, rfl, by simp [sumN], hf1⟩
 case round =>
  obtain ⟨k, hk, rfl, rfl, hfr⟩ := hrel
  have g1 := formed_sum h0 _ (formed_take cs _ k HF.out)
  have g2 : 0 ≤ sumN (cs.take k) := sumN_nn (fun c hc => (hNN.out c (List.mem_of_mem_take hc)).1)
  by_cases hlt : k < cs.length
  · obtain ⟨b, off, hab, lb, d0, d1, d2⟩ := (HC.out.kept0 hfr) k hlt
    have hcn := hNN.out cs[k] (List.getElem_mem _)
    have HT : Hid (sumN (cs.take (k + 1)) = sumN (cs.take k) + cs[k].n) := by show _ = _; rw [List.take_succ_eq_append_getElem hlt, sumN_snoc]
    subst hab
    generalize cs[k] = c at *
    generalize sumN (cs.take k) = s0 at *
    go_wp2_with fail
    go_roundw
    case rel => exact ⟨k + 1, by omega, by go_num, by rw [HT.out]; go_num, hfr.alloc _⟩
    case measure => simp [intOf]; omega
  · have hke : Hid (sumN (cs.take k) = sN) := by show _ = _; rw [List.take_of_length_le (by omega)]; exact HSN.out
    rw [hke.out]
    clear g1 g2 hke
    go_wp2_with fail
    clear hlt hk
    obtain ⟨wo, rfl⟩ : ∃ wo : World, wo = wr := ⟨_, rfl⟩
    go_loopw [1, 35] (fun v i wr => ∃ (k : Nat), k ≤ cs.length ∧ i = .int .i64 k ∧ v = .int .i64 (length - sN + sumT (lnL L) (cs.take k)) ∧ Fr0 w wr) (fun _ i _ => cs.length - (intOf i).toNat)
    case atStart => exact ⟨0, Nat.zero_le _, rfl, by simp [sumT], hfr⟩
    case round =>
     clear hfr
     obtain ⟨k, hk, rfl, rfl, hfr⟩ := hrel
     have g2 : 0 ≤ sumT (lnL L) (cs.take k) := sumT_nn (fun c hc => HNN.out c (List.mem_of_mem_take hc))
     by_cases hlt : k < cs.length
     · obtain ⟨b, off, hab, lb, d0, d1, d2⟩ := (HC.out.kept0 hfr) k hlt
       have hln := HNN.out cs[k] (List.getElem_mem _)
       have g3 : 0 ≤ sumT (lnL L) (cs.drop (k + 1)) := sumT_nn (fun c hc => HNN.out c (List.mem_of_mem_drop hc))
       have g4 : sT = sumT (lnL L) (cs.take (k + 1)) + sumT (lnL L) (cs.drop (k + 1)) := by rw [← sumT_split, List.take_append_drop]; exact HST.out.symm
       have g5 : sumT (lnL L) (cs.take (k + 1)) = sumT (lnL L) (cs.take k) + lnL L cs[k].text := by rw [List.take_succ_eq_append_getElem hlt, sumT_snoc]
       have HT := Lib.hid g5
       have CSZ := Lib.hid (fun W (hf : Fr0 wr W) => patch_sizeL (HS.out.kept0 (hfr.trans hf)) cs[k].text (HK.out cs[k] (List.getElem_mem _)).1)
       have CAD := Lib.hid (fun W => len_Add_ok (length - sN + sumT (lnL L) (cs.take k)) (lnL L cs[k].text) W (by omega) hln (by omega))
       clear g3 g4 g5
       subst hab
       generalize cs[k] = c at *
       generalize sumT (lnL L) (cs.take k) = s0 at *
       generalize lnL L c.text = l0 at *
       go_wp2_with fail
       refine (CSZ.out _ ((Fr0.refl wr).alloc _)).mono ?_
       rintro e w3 ⟨rfl, hf3⟩
       go_wp2_with fail
       refine (CAD.out _).mono ?_
       rintro e w4 ⟨rfl, rfl⟩
       go_wp2_with fail
       go_roundw
       case rel => exact ⟨k + 1, by omega, by go_num, by rw [HT.out]; go_num, hfr.trans (((Fr0.refl wr).alloc _).trans hf3)⟩
       case measure => simp [intOf]; omega
     · have hke : Hid (sumT (lnL L) (cs.take k) = sT) := by show _ = _; rw [List.take_of_length_le (by omega)]; exact HST.out
       rw [hke.out]
       clear g2 hke
       go_wp2_with fail
       go_ret2
       exact ⟨rfl, hfr⟩
end Go.Proofs.YtgldjpldldknoaaGreatDoor
/- Plain words: patches of plain texts. No program. -/
set_option linter.unusedSimpArgs false
set_option linter.unusedVariables false
namespace Go.Proofs.YtgldjpldldknoaaGreatDoor
open Go.RowKit
structure PC where
 at_ : Int
 n : Int
 text : List Int
def patG {α : Type} (emb : Int → α) (t : List α) : Int → List PC → List α
 | f, [] => t.drop f.toNat
 | f, c :: r => (t.drop f.toNat).take (c.at_ - f).toNat ++ (c.text.map emb ++ patG emb t (c.at_ + c.n) r)
def fitP (length last : Int) (c : PC) : Bool := decide (0 ≤ c.at_ ∧ 0 ≤ c.n ∧ c.at_ + c.n ≤ length ∧ last < c.at_ ∧ ¬ (c.n = 0 ∧ c.text = []))
def validP (length : Int) : Int → List PC → Bool
 | _, [] => true
 | last, c :: r => fitP length last c && validP length (c.at_ + c.n) r
theorem fitP_true {length last : Int} {c : PC} (h : fitP length last c = true) : 0 ≤ c.at_ ∧ 0 ≤ c.n ∧ c.at_ + c.n ≤ length ∧ last < c.at_ ∧ ¬ (c.n = 0 ∧ c.text = []) := of_decide_eq_true h
theorem validP_drop {length last : Int} {ps : List PC} {k : Nat} (h : k < ps.length) {b : Bool} (hf : validP length last (ps.drop k) = b) : (fitP length last ps[k] && validP length (ps[k].at_ + ps[k].n) (ps.drop (k + 1))) = b := by
 rw [List.drop_eq_getElem_cons h] at hf
 exact hf
def PChg (L : List Ent) : List Chg → List PC → Prop
 | [], [] => True
 | c :: cs, p :: ps => (c.at_ = p.at_ ∧ c.n = p.n ∧ ∃ d, BalZ L c.text p.text d) ∧ PChg L cs ps
 | _, _ => False
theorem PChg.len {L : List Ent} : ∀ {cs : List Chg} {ps : List PC}, PChg L cs ps → cs.length = ps.length
 | [], [], _ => rfl
 | _ :: cs, _ :: ps, h => by simp [PChg.len h.2]
theorem PChg.more {L L' : List Ent} {n : Nat} (hg : Grows L L' n) (hd : DOk L) : ∀ {cs : List Chg} {ps : List PC}, PChg L cs ps → PChg L' cs ps
 | [], [], _ => trivial
 | _ :: cs, _ :: ps, h => ⟨⟨h.1.1, h.1.2.1, by obtain ⟨d, hb⟩ := h.1.2.2; exact ⟨d, hg.balz hd hb⟩⟩, PChg.more hg hd h.2⟩
theorem PChg.snoc {L : List Ent} : ∀ {cs : List Chg} {ps : List PC}, PChg L cs ps → ∀ {c : Chg} {p : PC} {d : Int}, c.at_ = p.at_ → c.n = p.n → BalZ L c.text p.text d → PChg L (cs ++ [c]) (ps ++ [p])
 | [], [], _, _, _, _, h1, h2, hb => ⟨⟨h1, h2, ⟨_, hb⟩⟩, trivial⟩
 | _ :: cs, _ :: ps, h, _, _, _, h1, h2, hb => ⟨h.1, PChg.snoc h.2 h1 h2 hb⟩
theorem PChg.get {L : List Ent} : ∀ {cs : List Chg} {ps : List PC}, PChg L cs ps → ∀ (i : Nat) (h1 : i < cs.length) (h2 : i < ps.length), cs[i].at_ = ps[i].at_ ∧ cs[i].n = ps[i].n ∧ ∃ d, BalZ L cs[i].text ps[i].text d
 | _ :: cs, _ :: ps, h, 0, _, _ => h.1
 | _ :: cs, _ :: ps, h, i + 1, h1, h2 => by
  have := PChg.get h.2 i (by simpa using h1) (by simpa using h2)
  simpa using this
theorem PChg.all {L : List Ent} : ∀ {cs : List Chg} {ps : List PC}, PChg L cs ps → AllB L (cs.map Chg.text) (ps.map PC.text)
 | [], [], _ => trivial
 | _ :: cs, _ :: ps, h => ⟨h.1.2.2, PChg.all h.2⟩
theorem PChg.known {L : List Ent} : ∀ {cs : List Chg} {ps : List PC}, PChg L cs ps → ∀ c ∈ cs, isKnown L c.text ∧ (entAt L c.text).even = true
 | [], [], _, c, hc => by simp at hc
 | x :: cs, y :: ps, h, c, hc => by
  rcases List.mem_cons.1 hc with rfl | hc
  · obtain ⟨d, hb⟩ := h.1.2.2; exact ⟨hb.known, hb.even⟩
  · exact PChg.known h.2 c hc
theorem BalZ.nil_iff {L : List Ent} {id : Int} {t : List Int} {d : Int} (h : BalZ L id t d) (hd : DOk L) (hs : SOk L) : id = 0 ↔ t = [] := by
 refine ⟨fun e => (h.of0 e).1, fun e => ?_⟩
 refine Classical.byContradiction fun hn => ?_
 have := (h.bal hn).pos hd hs
 rw [e] at this
 simp at this
theorem PChg.valid {L : List Ent} (hd : DOk L) (hs : SOk L) {length : Int} : ∀ {cs : List Chg} {ps : List PC}, PChg L cs ps → ∀ last, formedFrom length last cs = validP length last ps
 | [], [], _, last => rfl
 | c :: cs, p :: ps, h, last => by
  obtain ⟨⟨h1, h2, d, hb⟩, h3⟩ := h
  have e := hb.nil_iff hd hs
  simp only [formedFrom, validP, h1, h2, PChg.valid hd hs h3]
  congr 1
  unfold fitPB fitP
  rw [h1, h2]
  congr 1
  rw [e]
def delP : List PC → Int
 | [] => 0
 | c :: r => c.n + delP r
def insP : List PC → Nat
 | [] => 0
 | c :: r => c.text.length + insP r
theorem PChg.del {L : List Ent} : ∀ {cs : List Chg} {ps : List PC}, PChg L cs ps → sumN cs = delP ps
 | [], [], _ => rfl
 | c :: cs, p :: ps, h => by simp only [sumN, delP, PChg.del h.2, h.1.2.1]
theorem PChg.ins {L : List Ent} (hd : DOk L) (hs : SOk L) : ∀ {cs : List Chg} {ps : List PC}, PChg L cs ps → sumT (lnL L) cs = insP ps
 | [], [], _ => rfl
 | c :: cs, p :: ps, h => by
  obtain ⟨d, hb⟩ := h.1.2.2
  have := hb.len hd hs
  simp only [sumT, insP, PChg.ins hd hs h.2, lnL, ← this]
  omega
theorem patG_len {α : Type} (emb : Int → α) (t : List α) : ∀ (ps : List PC) (f last : Int), validP t.length last ps = true → 0 ≤ f → f ≤ t.length → f ≤ last + 1 → ((patG emb t f ps).length : Int) = t.length - f - delP ps + insP ps
 | [], f, last, h, h0, h1, h2 => by simp only [patG, List.length_drop, delP, insP]; omega
 | c :: r, f, last, h, h0, h1, h2 => by
  unfold validP at h
  rw [Bool.and_eq_true] at h
  obtain ⟨t1, t2, t3, t4, t5⟩ := fitP_true h.1
  have ih := patG_len emb t r (c.at_ + c.n) (c.at_ + c.n) h.2 (by omega) t3 (by omega)
  simp only [patG, List.length_append, List.length_take, List.length_drop, List.length_map, delP, insP]
  omega
theorem delP_nn {length : Int} : ∀ {ps : List PC} {last : Int}, validP length last ps = true → 0 ≤ delP ps
 | [], _, _ => by simp [delP]
 | c :: r, last, h => by
  unfold validP at h
  rw [Bool.and_eq_true] at h
  obtain ⟨t1, t2, t3, t4, t5⟩ := fitP_true h.1
  have := delP_nn h.2
  simp only [delP]; omega
theorem delP_le {length : Int} : ∀ {ps : List PC} {last : Int}, validP length last ps = true → -1 ≤ last → last ≤ length → 0 ≤ length → delP ps ≤ length - max last 0
 | [], last, _, h0, h1, h2 => by simp only [delP]; omega
 | c :: r, last, h, h0, h1, h2 => by
  unfold validP at h
  rw [Bool.and_eq_true] at h
  obtain ⟨t1, t2, t3, t4, t5⟩ := fitP_true h.1
  have := delP_le h.2 (by omega) t3 h2
  simp only [delP]; omega
end Go.Proofs.YtgldjpldldknoaaGreatDoor
/- Strings as letters; balance.Text over a store with room. -/
set_option linter.unusedSimpArgs false
set_option linter.unusedVariables false
namespace Go.Proofs.YtgldjpldldknoaaGreatDoor
open Go.RowKit
def sbs (s : ByteArray) : List Int := s.data.toList.map fun b => (b.toNat : Int)
theorem sbs_len (s : ByteArray) : (sbs s).length = s.size := by unfold sbs; rw [List.length_map]; rfl
theorem sbs_rng (s : ByteArray) : ∀ x ∈ sbs s, 0 ≤ x ∧ x < 256 := by
 intro x hx
 obtain ⟨b, _, rfl⟩ := List.mem_map.1 hx
 have := b.toNat_lt
 omega
theorem textR_txt : ∀ (f : Nat) (L : List Ent) (bs : List Int), SOk L → DOk L → 1 ≤ bs.length → bs.length ≤ f → bs.length ≤ 65536 → (∀ x ∈ bs, 0 ≤ x ∧ x < 256) → txt (textR f L bs).1 (textR f L bs).2 = bs := by
 intro f
 induction f with
 | zero => intro L bs _ _ h1 h2; omega
 | succ f ih =>
  intro L bs hs hd h1 h2 h3 hr
  have hok := textR_ok (f + 1) L bs hs hd h1 h2 h3 hr
  revert hok
  unfold textR
  by_cases h : bs.length = 1
  · rw [if_pos h]
    obtain ⟨b, rfl⟩ : ∃ b, bs = [b] := List.length_eq_one_iff.1 h
    intro hok
    have e := ent_letter hd b
    have k := txt_letter hok.known hok.ne (by show (entAt (addL L (letterEnt b)) (addI L (letterEnt b))).rule.kind = 1; rw [e]; rfl)
    refine k.trans ?_
    show [(entAt (addL L (letterEnt b)) (addI L (letterEnt b))).rule.letter] = _
    rw [e]; rfl
  · rw [if_neg h]
    intro hok
    have ra : ∀ x ∈ bs.take (bs.length / 2), 0 ≤ x ∧ x < 256 := fun x hx => hr x (List.mem_of_mem_take hx)
    have rb : ∀ x ∈ bs.drop (bs.length / 2), 0 ≤ x ∧ x < 256 := fun x hx => hr x (List.mem_of_mem_drop hx)
    have ta := textR_ok f L (bs.take (bs.length / 2)) hs hd (by simp; omega) (by simp; omega) (by simp; omega) ra
    have tb := textR_ok f (textR f L (bs.take (bs.length / 2))).1 (bs.drop (bs.length / 2)) ta.sok ta.dok (by simp; omega) (by simp; omega) (by simp; omega) rb
    have ia := ih L (bs.take (bs.length / 2)) hs hd (by simp; omega) (by simp; omega) (by simp; omega) ra
    have ib := ih (textR f L (bs.take (bs.length / 2))).1 (bs.drop (bs.length / 2)) ta.sok ta.dok (by simp; omega) (by simp; omega) (by simp; omega) rb
    generalize textR f L (bs.take (bs.length / 2)) = XA at *
    generalize textR f XA.1 (bs.drop (bs.length / 2)) = XB at *
    obtain ⟨A, a⟩ := XA
    obtain ⟨C, c⟩ := XB
    dsimp only at *
    have e := ent_pair tb.dok a c
    obtain ⟨M, hM⟩ := tb.ext
    obtain ⟨N, hN⟩ := addL_ext C (pairEnt C a c)
    have ka : isKnown C a := by rw [hM]; exact isKnown_append M ta.known
    have k := txt_pair hok.dok hok.known hok.ne (by show (entAt (addL C (pairEnt C a c)) (addI C (pairEnt C a c))).rule.kind = 2; rw [e]; rfl)
    refine k.trans ?_
    show txt (addL C (pairEnt C a c)) (entAt (addL C (pairEnt C a c)) (addI C (pairEnt C a c))).rule.left ++ txt (addL C (pairEnt C a c)) (entAt (addL C (pairEnt C a c)) (addI C (pairEnt C a c))).rule.right = _
    rw [e]
    show txt (addL C (pairEnt C a c)) a ++ txt (addL C (pairEnt C a c)) c = _
    rw [hN, txt_append tb.dok N ka, txt_append tb.dok N tb.known]
    have ea : txt C a = txt A a := by rw [hM]; exact txt_append ta.dok M ta.known
    rw [ea, ia, ib, List.take_append_drop]
theorem textR_bal {f : Nat} {L : List Ent} {bs : List Int} (hs : SOk L) (hd : DOk L) (h1 : 1 ≤ bs.length) (h2 : bs.length ≤ f) (h3 : bs.length ≤ 65536) (hr : ∀ x ∈ bs, 0 ≤ x ∧ x < 256) :
    Bal (textR f L bs).1 (textR f L bs).2 bs (clog bs.length) ∧ Grows L (textR f L bs).1 (2 * bs.length) := by
 have h := textR_ok f L bs hs hd h1 h2 h3 hr
 exact ⟨⟨h.known, h.ne, textR_txt f L bs hs hd h1 h2 h3 hr, h.even, h.depth⟩, ⟨h.ext, by have := h.len; omega, h.sok, h.dok, fun u => Uq.text f L bs u hr⟩⟩
theorem sto_Text {B : Nat} {w : World} {p mb : Nat} {most : Int} {L : List Ent} {bs : List Int} (hR : Room B w p mb most L (2 * bs.length)) (bb off cap : Nat) (hB : BytesAt w bb off bs) (h3 : bs.length ≤ 65536) (hc : bs.length ≤ cap) (hc2 : cap ≤ 9223372036854775807) :
    Calls Tryz.prog 9 #[.pointer (some ⟨p, 0, none⟩), .slice (some ⟨bb, off, none⟩) bs.length cap] w (ZPost B w p mb most L bs (fun d k => k ≤ 2 * bs.length)) := by
 by_cases h0 : bs.length = 0
 · have e : bs = [] := List.eq_nil_of_length_eq_zero h0
   subst e
   refine (bal_Text_nil (w := w) (p := p) (some ⟨bb, off, none⟩) cap).mono ?_
   rintro e w' ⟨rfl, rfl⟩
   exact ZPost.same hR (Fr0.refl w) (BalZ.zero L) (by simp)
 · obtain ⟨sv, hS, s1, s2, s3⟩ := hR.st
   have hb := textR_bal (f := bs.length) hR.sok hR.dok (by omega) (Nat.le_refl _) h3 hB.rng
   refine (bal_Text hS hR.sok hR.dok bb off bs.length cap bs hB rfl (by omega) h3 hc hc2 hR.most hR.big).mono ?_
   rintro e w' ⟨rfl, hst⟩
   obtain ⟨q1, q2⟩ := Sto.step hS s1 s2 s3 hR.base hst
   exact ⟨_, _, _, _, rfl, q1, q2, hb.2, hb.1.z, Nat.le_refl _⟩
theorem sto_TextN {B : Nat} {w : World} {p mb : Nat} {most : Int} {L : List Ent} {bs : List Int} {n : Nat} (hn : bs.length = n) (hR : Room B w p mb most L (2 * n)) (bb off cap : Nat) (hB : BytesAt w bb off bs) (h3 : n ≤ 65536) (hc : n ≤ cap) (hc2 : cap ≤ 9223372036854775807) :
    Calls Tryz.prog 9 #[.pointer (some ⟨p, 0, none⟩), .slice (some ⟨bb, off, none⟩) n cap] w (ZPost B w p mb most L bs (fun d k => k ≤ 2 * n)) := by
 subst hn
 exact sto_Text hR bb off cap hB h3 hc hc2
theorem bytes_conv (w : World) (s : ByteArray) (cap : Nat) (f : Nat × Nat) : BytesAt (w.alloc (.cells (bytesRow s cap) 5 f)) w.heap.size 0 (sbs s) := by
 refine ⟨⟨_, _, alloc_at _ _ _ rfl, fun i hi => ?_⟩, sbs_rng s⟩
 have hs : i < s.data.size := by rw [sbs_len] at hi; exact hi
 rw [Nat.zero_add, bytesRow_at s cap i hs]
 simp [sbs]
theorem bytes_convH (w : World) (H : Nat) (hH : w.heap.size = H) (s : ByteArray) (cap : Nat) (f : Nat × Nat) : BytesAt (w.alloc (.cells (bytesRow s cap) 5 f)).drew H 0 (sbs s) := by
 subst hH
 exact ⟨(bytes_conv w s cap f).blk, sbs_rng s⟩
theorem conv_bytes (w : World) (s : ByteArray) : ∃ cap f, (convert 9 41 (.string s)).run Tryz.prog w = .ok (.slice (some ⟨w.heap.size, 0, none⟩) s.size cap) (w.alloc (.cells (bytesRow s cap) 5 f)).drew ∧ s.size ≤ cap ∧ (s.size ≤ maxLen → cap ≤ maxLen) :=
 ⟨grownCap w s.size 0 5, _, run_bytes_of_string w 9 41 5 s Tryz.underlying9 Tryz.underlying41 Tryz.underlying5, grownCap_ge _ _ _ _, fun h => grownCap_le_maxLen _ _ _ _ h⟩
end Go.Proofs.YtgldjpldldknoaaGreatDoor
/- Changes with strings in memory, and the walk of evergreenlaw37.To. -/
set_option linter.unusedSimpArgs false
set_option linter.unusedVariables false
namespace Go.Proofs.YtgldjpldldknoaaGreatDoor
open Go.RowKit
structure PS where
 at_ : Int
 n : Int
 s : ByteArray
def PS.vals (c : PS) : List Value := [.int .i64 c.at_, .int .i64 c.n, .string c.s]
def PS.pc (c : PS) : PC := ⟨c.at_, c.n, sbs c.s⟩
def Chg.vals (c : Chg) : List Value := [.int .i64 c.at_, .int .i64 c.n, .int .i64 c.text]
theorem info_chg : (Tryz.prog.info? 55).map (fun i => (i.zero, i.size, i.bytes)) = some (some (.agg #[.int .i64 0, .int .i64 0, .int .i64 0]), 3, 24) := by kernel_rfl
theorem rt_chg : RT 29 55 3 24 := by
 obtain ⟨i, h1, h2, h3, h4⟩ := info_parts info_chg
 exact ⟨by omega, i, _, Tryz.underlying29, h1, h2, h3, h4, rfl⟩
theorem chgs_of_rg {B : Nat} {w : World} {a : Option Addr} {cs : List Chg} (h : RG Chg.vals 3 B w a cs) : ChgsAt w a cs := by
 intro i hi
 obtain ⟨b, off, h1, h2, _, h4⟩ := h i hi
 exact ⟨b, off, h1, h2, h4 0 _ rfl, h4 1 _ rfl, h4 2 _ rfl⟩
theorem insP_snoc (ps : List PC) (c : PC) : insP (ps ++ [c]) = insP ps + c.text.length := by
 induction ps with
 | nil => simp [insP]
 | cons x r ih => simp only [List.cons_append, insP, ih]; omega
theorem insP_split (ps qs : List PC) : insP (ps ++ qs) = insP ps + insP qs := by
 induction ps with
 | nil => simp [insP]
 | cons x r ih => simp only [List.cons_append, insP, ih]; omega
def ToPost (B : Nat) (w : World) (p mb : Nat) (most : Int) (L : List Ent) (ps : List PC) (N : Nat) (e : Ending) (w' : World) : Prop :=
 ∃ L' v cs k, e = .returned (.tuple #[v, .bool true]) ∧ Sto B w' p mb most L' ∧ Kp B mb w w' ∧ Grows L L' k ∧ k ≤ N ∧ w'.ownsRow w.heap.size 55 3 v cs.length (cs.flatMap Chg.vals) ∧ PChg L' cs ps
structure ToR (B : Nat) (w wr : World) (p mb : Nat) (most : Int) (L : List Ent) (ps : List PC) (v : Value) (L' : List Ent) (cs : List Chg) : Prop where
 st : Sto B wr p mb most L'
 kp : Kp B mb w wr
 grows : Grows L L' (2 * insP ps)
 own : wr.ownsRow w.heap.size 55 3 v cs.length (cs.flatMap Chg.vals)
 all : PChg L' cs ps
set_option maxRecDepth 100000 in
set_option maxHeartbeats 2000000 in
theorem law37_To {B : Nat} {w : World} {p mb : Nat} {most : Int} {L : List Ent} {ps : List PS} {a : Option Addr} {cap : Nat} (hR : Room B w p mb most L (2 * insP (ps.map PS.pc))) (hA : RG PS.vals 3 B w a ps) (hl : ps.length ≤ 1000000) (h3 : ∀ c ∈ ps, c.s.size ≤ 65536) :
    Calls Tryz.prog 18 #[.pointer (some ⟨p, 0, none⟩), .slice a ps.length cap] w (ToPost B w p mb most L (ps.map PS.pc) (2 * insP (ps.map PS.pc))) := by
 have HR := Lib.hid hR
 have HA := Lib.hid hA
 have H3 := Lib.hid h3
 have H0 : Hid (ToR B w w p mb most L [] (.slice none 0 0) L []) := ⟨hR.st, Kp.refl _ _ _, (Grows.refl hR.sok hR.dok).le (by omega), World.ownsRow_nil _ _ _ _, trivial⟩
 clear hR hA h3
 go_enter Tryz.func18, Tryz.ntmps18
 go_wp2_with fail
 go_loopw [6, 13] (fun v i wr => ∃ (k : Nat) (L' : List Ent) (cs : List Chg), k ≤ ps.length ∧ i = .int .i64 k ∧ Hid (cs.length = k) ∧ ToR B w wr p mb most L ((ps.take k).map PS.pc) v L' cs) (fun _ i _ => ps.length - (intOf i).toNat)
 case atStart => exact ⟨0, L, [], Nat.zero_le _, rfl, rfl, H0.out⟩
 case round =>
  obtain ⟨k, L', cs, hk, rfl, HCL, hr⟩ := hrel
  clear H0
  by_cases hlt : k < ps.length
  · obtain ⟨b, off, rfl, lb, _, hc⟩ := (HA.out.keptK hr.kp) k hlt
    have c0 := hc 0 _ rfl
    have c1 := hc 1 _ rfl
    have c2 := hc 2 _ rfl
    rw [Nat.add_zero] at c0
    have h65 := H3.out ps[k] (List.getElem_mem _)
    have htk : (ps.take (k + 1)).map PS.pc = (ps.take k).map PS.pc ++ [ps[k].pc] := by rw [List.take_succ_eq_append_getElem hlt, List.map_append]; rfl
    have hin : insP ((ps.take (k + 1)).map PS.pc) ≤ insP (ps.map PS.pc) := by
     have := insP_split ((ps.take (k + 1)).map PS.pc) ((ps.drop (k + 1)).map PS.pc)
     rw [← List.map_append, List.take_append_drop] at this
     omega
    have hin2 : insP ((ps.take (k + 1)).map PS.pc) = insP ((ps.take k).map PS.pc) + ps[k].s.size := by rw [htk, insP_snoc]; show _ + (sbs _).length = _; rw [sbs_len]
    have hroom := HR.out.next (k := 2 * ps[k].s.size) hr.st hr.kp hr.grows (by omega)
    have HTK := Lib.hid htk
    have HIN := Lib.hid hin2
    have HRR := Lib.hid hr
    have HRM := Lib.hid hroom
    clear hc htk hin hin2 hr hroom HR HA H3
    generalize ps[k] = c at *
    obtain ⟨ccap, cf, hconv, hcap1, hcap2⟩ := conv_bytes (wr.alloc (.cells #[.int .i64 c.at_, .int .i64 c.n, .string c.s] 65 (0, 0))) c.s
    have hcap3 := hcap2 (by unfold maxLen; omega)
    unfold maxLen at hcap3
    have hF : Fr0 wr ((wr.alloc (.cells #[.int .i64 c.at_, .int .i64 c.n, .string c.s] 65 (0, 0))).alloc (.cells (bytesRow c.s ccap) 5 cf)).drew := (((Fr0.refl wr).alloc _).alloc _).drew
    have CT := Lib.hid (sto_TextN (sbs_len c.s) (HRM.out.kept0 hF) (wr.heap.size + 1) 0 ccap (bytes_convH _ _ (by simp) c.s ccap cf) h65 hcap1 hcap3)
    have HF := Lib.hid hF
    clear hF hcap2
    go_wp2_with fail
    (with_reducible refine CT.out.mono ?_)
    rintro e w3 ⟨L2, z, dz, kz, rfl, hS2, hK2, g2, bz, hz⟩
    have hr3 := hK2.cells wr.heap.size _ _ _ (alloc2_0 wr _ _) (by decide) (by decide)
    obtain ⟨d0, d1, d2, _, ld⟩ := cells3 hr3
    have hK3 := (HRR.out.kp.trans (Kp.of0 HF.out)).trans hK2
    have ho3 := hK2.owns (HF.out.owns HRR.out.own) (by decide) (by decide)
    have hall := (HRR.out.all.more g2 HRR.out.grows.dok).snoc (c := ⟨c.at_, c.n, z⟩) (p := c.pc) rfl rfl bz
    have hN : ∀ v' w', w'.ownsRow w.heap.size 55 3 v' (cs ++ [(⟨c.at_, c.n, z⟩ : Chg)]).length ((cs ++ [(⟨c.at_, c.n, z⟩ : Chg)]).flatMap Chg.vals) → (w3.alloc (.cells #[.int .i64 c.at_, .int .i64 c.n, .int .i64 z] 55 (0, 0))).grownBy w' u6.ownBlock → ToR B w w' p mb most L ((ps.take (k + 1)).map PS.pc) v' L2 (cs ++ [⟨c.at_, c.n, z⟩]) :=
     fun v' w' h1 h2 => ⟨hS2.push ho3 (by decide) (by decide) h2, (hK3.alloc _).grown h2 (fun j hj => (ho3.lt j hj).1), HRR.out.grows.trans g2 (by rw [HIN.out]; omega), h1, by rw [HTK.out]; exact hall⟩
    have HN := Lib.hid hN
    have hbs : w.heap.size ≤ w3.heap.size := hK3.size
    have hcl : cs.length ≤ 1000000 := by rw [HCL.out]; omega
    clear hN hS2 hK2 g2 bz hz hall CT hr3 hK3 hconv HF
    go_wp2_with (at_builtin; refine wpList_pushG rt_chg rfl _ _ rfl w.heap.size _ cs rfl ho3 hbs 55 ⟨c.at_, c.n, z⟩ #[.int .i64 c.at_, .int .i64 c.n, .int .i64 z] rfl rfl (by simp [Chg.vals, Value.oneCell']) 1 _ rfl rfl (by omega) hcl ?_; intro v' w4 hO4 hg4 hat4)
    go_roundw
    case rel => exact ⟨k + 1, L2, cs ++ [⟨c.at_, c.n, z⟩], by omega, by go_num, by show _ = _; rw [List.length_append, HCL.out]; rfl, HN.out _ _ hO4 hg4⟩
    case measure => simp [intOf]; omega
  · have hkz : k = ps.length := by omega
    have HX : Hid (ToPost B w p mb most L (ps.map PS.pc) (2 * insP (ps.map PS.pc)) (.returned (.tuple #[u6, .bool true])) wr) := by
     have h1 := hr
     rw [hkz, List.take_length] at h1
     exact ⟨L', u6, cs, _, rfl, h1.st, h1.kp, h1.grows, Nat.le_refl _, h1.own, h1.all⟩
    clear hr hkz hk HA HR H3
    go_wp2_with fail
    go_ret2
    exact HX.out
end Go.Proofs.YtgldjpldldknoaaGreatDoor
/- The walks of patch.applied and patch.Apply. -/
set_option linter.unusedSimpArgs false
set_option linter.unusedVariables false
namespace Go.Proofs.YtgldjpldldknoaaGreatDoor
open Go.RowKit
theorem owns_low {w : World} {base base' : Nat} {e : TypeId} {size n : Nat} {v : Value} {xs : List Value} (h : w.ownsRow base e size v n xs) (hb : base' ≤ base) : w.ownsRow base' e size v n xs := by
 refine ⟨h.1, ?_⟩
 rcases h.2 with h1 | ⟨g, cap, cur, h1, h2, r⟩
 · exact .inl h1
 · exact .inr ⟨g, cap, cur, h1, by omega, r⟩
theorem Sto.set {B : Nat} {w : World} {p mb : Nat} {most : Int} {L : List Ent} (hS : Sto B w p mb most L) {base : Nat} {T : TypeId} {size n g cap : Nat} {xs : List Value} (ho : w.ownsRow base T size (.slice (some ⟨g, 0, none⟩) n cap) n xs) (h1 : T ≠ 100) (h2 : T ≠ 84) (k : Nat) (u : Value) :
    Sto B (w.setCell ⟨g, k, none⟩ u) p mb most L := by
 obtain ⟨sv, hS, q⟩ := hS
 obtain ⟨cur, hc⟩ := owns_block ho (k := g) rfl
 refine ⟨sv, hS.kept (S := fun j => j = g) ((Fr.refl _ w).setCell _ _ (fun _ => rfl)) ?_ ?_ ?_, q⟩
 · exact ne_of_types hS.ptr hc (fun e => h1 e.symm)
 · exact ne_of_map hS.mp hc
 · intro j hj
   obtain ⟨cur2, hc2⟩ := owns_block hS.own hj
   exact ne_of_types hc2 hc (fun e => h2 e.symm)
theorem Kp.setCell {B mb : Nat} {w0 w : World} (h : Kp B mb w0 w) (a : Addr) (u : Value) (ha : w0.heap.size ≤ a.block) : Kp B mb w0 (w.setCell a u) := by
 have key : ∀ k, k < w0.heap.size → (w.setCell a u).heap[k]? = w.heap[k]? := fun k hk => setCell_other a u (by omega)
 refine ⟨h.os, h.tape, h.output, by simpa [World.setCell] using h.size, fun k h1 h2 => (key k h2).trans (h.low k h1 h2), fun k cs t f e n1 n2 => ?_, fun k es n e ne => ?_⟩
 · rw [key k (lt_of_block e)]; exact h.cells k cs t f e n1 n2
 · rw [key k (lt_of_block e)]; exact h.maps k es n e ne
theorem validP_get {T : Int} : ∀ (ps : List PC) (last : Int), validP T last ps = true → ∀ (i : Nat) (h : i < ps.length), 0 ≤ ps[i].at_ ∧ 0 ≤ ps[i].n ∧ ps[i].at_ + ps[i].n ≤ T
 | c :: r, last, h, 0, _ => by
  unfold validP at h
  rw [Bool.and_eq_true] at h
  obtain ⟨t1, t2, t3, t4, t5⟩ := fitP_true h.1
  exact ⟨t1, t2, t3⟩
 | c :: r, last, h, i + 1, hi => by
  unfold validP at h
  rw [Bool.and_eq_true] at h
  exact validP_get r _ h.2 i (by simpa using hi)
end Go.Proofs.YtgldjpldldknoaaGreatDoor
/- A map from IDs to IDs, held exactly. -/
set_option linter.unusedSimpArgs false
set_option linter.unusedVariables false
namespace Go.Proofs.YtgldjpldldknoaaGreatDoor
open Go.RowKit
def ppEntries : Nat → List (Int × Int) → List MapEntry
 | _, [] => []
 | i, x :: r => { key := .int .i64 x.1, val := .int .i64 x.2, born := i } :: ppEntries (i + 1) r
def nums : Nat → List Int → List (Int × Int)
 | _, [] => []
 | i, x :: r => (x, (i : Int) + 1) :: nums (i + 1) r
theorem Outs.nodup {L : List Ent} {id : Int} {out : List Int} (h : Outs L id out) : out.Nodup := h.sorted.imp (fun h => by omega)
end Go.Proofs.YtgldjpldldknoaaGreatDoor
/- Letters that remember where they were, in memory; the walks of evergreenref37's Cells and Text. -/
set_option linter.unusedSimpArgs false
set_option linter.unusedVariables false
namespace Go.Proofs.YtgldjpldldknoaaGreatDoor
open Go.RowKit
structure OwnG {α : Type} (vals : α → List Value) (T : TypeId) (size : Nat) (w0 w : World) (v : Value) (xs : List α) : Prop where
 row : w.ownsRow w0.heap.size T size v xs.length (xs.flatMap vals)
 fr : Fr0 w0 w
theorem OwnG.nil {α : Type} (vals : α → List Value) (T : TypeId) (size : Nat) {w0 w : World} (h : Fr0 w0 w) : OwnG vals T size w0 w (.slice none 0 0) [] := ⟨World.ownsRow_nil _ _ _ _, h⟩
theorem OwnG.kept0 {α : Type} {vals : α → List Value} {T : TypeId} {size : Nat} {w0 w w' : World} {v : Value} {xs : List α} (h : OwnG vals T size w0 w v xs) (hf : Fr0 w w') : OwnG vals T size w0 w' v xs := ⟨hf.owns h.row, h.fr.trans hf⟩
theorem OwnG.form {α : Type} {vals : α → List Value} {T : TypeId} {size : Nat} {w0 w : World} {v : Value} {xs : List α} (h : OwnG vals T size w0 w v xs) : ∃ a cap, v = .slice a xs.length cap := owns_form h.row
theorem OwnG.grown {α : Type} {vals : α → List Value} {T : TypeId} {size : Nat} {w0 w wx w' : World} {v v' : Value} {xs ys : List α} (h : OwnG vals T size w0 w v xs) (hx : Fr0 w wx) (h1 : w'.ownsRow w0.heap.size T size v' ys.length (ys.flatMap vals)) (hg : wx.grownBy w' v.ownBlock) : OwnG vals T size w0 w' v' ys :=
 ⟨h1, Fr.grown (h.fr.trans hx) hg (fun j hj hlt => by have := (h.row.lt j hj).1; omega)⟩
theorem OwnG.base {α : Type} {vals : α → List Value} {T : TypeId} {size : Nat} {w0 w1 w : World} {v : Value} {xs : List α} (h : OwnG vals T size w1 w v xs) (hf : Fr0 w0 w1) : OwnG vals T size w0 w v xs := ⟨owns_low h.row hf.size', hf.trans h.fr⟩
def cellsK (t : List Int) (k : Nat) : List (Int × Int) := (List.range k).map fun i => (t.getD i 0, (i : Int))
def cellsOf (t : List Int) : List (Int × Int) := cellsK t t.length
end Go.Proofs.YtgldjpldldknoaaGreatDoor
/- The walk of evergreenref37.Apply. -/
set_option linter.unusedSimpArgs false
set_option linter.unusedVariables false
namespace Go.Proofs.YtgldjpldldknoaaGreatDoor
open Go.RowKit
theorem add_offG (b o j : Nat) : (⟨b, o, none⟩ : Addr).add j = ⟨b, o + j, none⟩ := by
 unfold Addr.add
 split
 · next e => rw [e, Nat.add_zero]
 · rfl
def embC (x : Int) : Int × Int := (x, -1)
end Go.Proofs.YtgldjpldldknoaaGreatDoor
/- The walk of evergreenlaw37.small. -/
set_option linter.unusedSimpArgs false
set_option linter.unusedVariables false
namespace Go.Proofs.YtgldjpldldknoaaGreatDoor
open Go.RowKit
def costL : List PS → Nat
 | [] => 0
 | c :: r => c.s.size + 1 + costL r
def PssAt (B : Nat) (w : World) (a : Option Addr) (pss : List (List PS)) : Prop :=
 ∀ i (h : i < pss.length), ∃ b off ia ic, a = some ⟨b, off, none⟩ ∧ b < w.heap.size ∧ w.cell? ⟨b, off + i, none⟩ = some (.slice ia pss[i].length ic) ∧ RG PS.vals 3 B w ia pss[i]
theorem PssAt.kept0 {B : Nat} {w w' : World} {a : Option Addr} {pss : List (List PS)} (h : PssAt B w a pss) (hf : Fr0 w w') : PssAt B w' a pss := by
 intro i hi
 obtain ⟨b, off, ia, ic, h1, h2, h3, h4⟩ := h i hi
 exact ⟨b, off, ia, ic, h1, by have := Fr.size hf; omega, (hf.cell b _ h2).trans h3, h4.kept0 hf⟩
end Go.Proofs.YtgldjpldldknoaaGreatDoor
/- Plain words: what fit makes of any changes: a patch of a text of a length. No program. -/
set_option linter.unusedSimpArgs false
set_option linter.unusedVariables false
namespace Go.Proofs.YtgldjpldldknoaaGreatDoor
open Go.RowKit
def uW (k : Int) : Int := k % 18446744073709551616
def ftL (T : Int) : Nat → Int → List PS → List PC
 | 0, _, _ => []
 | _ + 1, _, [] => []
 | i + 1, at_, c :: r =>
  if T < at_ then []
  else if 0 < uW c.n % (T - (at_ + uW c.at_ % (T - at_ + 1)) + 1) ∨ (sbs c.s).take 50 ≠ [] then
   ⟨at_ + uW c.at_ % (T - at_ + 1), uW c.n % (T - (at_ + uW c.at_ % (T - at_ + 1)) + 1), (sbs c.s).take 50⟩ ::
    ftL T i (at_ + uW c.at_ % (T - at_ + 1) + uW c.n % (T - (at_ + uW c.at_ % (T - at_ + 1)) + 1) + 1) r
  else ftL T i at_ r
theorem ft_rng {T at_ : Int} (h : at_ ≤ T) (k : Int) : 0 ≤ uW k % (T - at_ + 1) ∧ at_ + uW k % (T - at_ + 1) ≤ T := by
 have h1 : 0 < T - at_ + 1 := by omega
 have h2 := Int.emod_nonneg (uW k) (b := T - at_ + 1) (by omega)
 have h3 := Int.emod_lt_of_pos (uW k) h1
 omega
theorem ft_valid (T : Int) : ∀ (i : Nat) (at_ last : Int) (l : List PS), 0 ≤ at_ → last < at_ → validP T last (ftL T i at_ l) = true
 | 0, _, _, _, _, _ => rfl
 | _ + 1, _, _, [], _, _ => rfl
 | i + 1, at_, last, c :: r, h0, hl => by
  rw [ftL]
  split
  · rfl
  · rename_i hT
    obtain ⟨a1, a2⟩ := ft_rng (T := T) (at_ := at_) (by omega) c.at_
    generalize uW c.at_ % (T - at_ + 1) = f at *
    obtain ⟨b1, b2⟩ := ft_rng (T := T) (at_ := at_ + f) (by omega) c.n
    generalize uW c.n % (T - (at_ + f) + 1) = n at *
    split
    · rename_i hc
      unfold validP
      rw [Bool.and_eq_true]
      refine ⟨?_, ft_valid T i _ _ r (by omega) (by show at_ + f + n < _; omega)⟩
      unfold fitP
      refine decide_eq_true ⟨by show 0 ≤ at_ + f; omega, b1, b2, by show last < at_ + f; omega, fun h => ?_⟩
      rcases hc with hc | hc
      · have : n = 0 := h.1
        omega
      · exact hc h.2
    · exact ft_valid T i at_ last r h0 hl
theorem ft_len (T : Int) : ∀ (i : Nat) (at_ : Int) (l : List PS), (ftL T i at_ l).length ≤ i ∧ insP (ftL T i at_ l) ≤ 50 * i ∧ ∀ c ∈ ftL T i at_ l, c.text.length ≤ 50
 | 0, _, _ => ⟨Nat.le_refl _, Nat.le_refl _, fun c hc => by cases hc⟩
 | _ + 1, _, [] => ⟨by simp [ftL], by simp [ftL, insP], fun c hc => by simp [ftL] at hc⟩
 | i + 1, at_, c :: r => by
  rw [ftL]
  have ht : ((sbs c.s).take 50).length ≤ 50 := by rw [List.length_take]; omega
  split
  · exact ⟨by simp, by simp [insP], fun c hc => by cases hc⟩
  · split
    · obtain ⟨h1, h2, h3⟩ := ft_len T i (at_ + uW c.at_ % (T - at_ + 1) + uW c.n % (T - (at_ + uW c.at_ % (T - at_ + 1)) + 1) + 1) r
      refine ⟨by rw [List.length_cons]; omega, ?_, fun x hx => ?_⟩
      · unfold insP
        dsimp only
        omega
      · rcases List.mem_cons.1 hx with rfl | hx
        · exact ht
        · exact h3 x hx
    · obtain ⟨h1, h2, h3⟩ := ft_len T i at_ r
      exact ⟨by omega, by omega, h3⟩
end Go.Proofs.YtgldjpldldknoaaGreatDoor

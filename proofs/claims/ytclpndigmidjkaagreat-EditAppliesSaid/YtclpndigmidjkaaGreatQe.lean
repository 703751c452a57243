/- A map from IDs to true, held exactly. -/
import Derived.Test.YtclpndigmidjkaaGreatQc
import Derived.Test.YtclpndigmidjkaaGreatQd
set_option linter.unusedSimpArgs false
set_option linter.unusedVariables false
namespace Go.Proofs.YtclpndigmidjkaaGreat
open Go.RowKit

def idEntries : Nat → List Int → List MapEntry
  | _, [] => []
  | i, x :: r => { key := .int .i64 x, val := .bool true, born := i } :: idEntries (i + 1) r

theorem idEntries_push (x : Int) : ∀ (xs : List Int) (i : Nat), idEntries i (xs ++ [x]) = idEntries i xs ++ [{ key := .int .i64 x, val := .bool true, born := i + xs.length }] := by
  intro xs
  induction xs with
  | nil => intro i; simp [idEntries]
  | cons y r ih =>
    intro i
    simp only [List.cons_append, idEntries, ih (i + 1), List.length_cons]
    rw [show i + 1 + r.length = i + (r.length + 1) by omega]

theorem findNow_ids (x : Int) : ∀ (xs : List Int) (i j : Nat), Instr.findNow (.int .i64) (.int .i64 x) (idEntries i xs) j = some (if x ∈ xs then some (j + xs.findIdx (· == x), .bool true) else none) := by
  intro xs
  induction xs with
  | nil => intro i j; simp [idEntries, Instr.findNow]
  | cons y r ih =>
    intro i j
    simp only [idEntries, Instr.findNow, Instr.sameNow, if_true]
    by_cases h : x = y
    · subst h; simp [List.findIdx_cons]
    · have h1 : (x == y) = false := by simpa using h
      have h2 : (y == x) = false := by simpa using Ne.symm h
      simp only [h1, ih (i + 1) (j + 1), List.mem_cons, h, false_or, List.findIdx_cons, h2, cond_false]
      split
      · rw [show j + 1 + r.findIdx (· == x) = j + (r.findIdx (· == x) + 1) by omega]
      · rfl

theorem run_findIds (x : Int) (xs : List Int) (w : World) : (Instr.findKey 39 (.int .i64 x) (idEntries 0 xs)).run Tryz.prog w = .ok (if x ∈ xs then some (xs.findIdx (· == x), .bool true) else none) w := by
  have h := findNow_ids x xs 0 0
  rw [Nat.zero_add] at h
  simp [Instr.findKey, go_sem, h]

theorem id_check (em : Bool) (x : Int) (w : World) : (Instr.checkKey em 10000 39 (.int .i64 x)).run Tryz.prog w = .ok () w := by
  have h : ∀ d, (Instr.checkKey em (d + 1) 39 (.int .i64 x)).run Tryz.prog w = .ok () w := fun d => by simp [Instr.checkKey, go_sem]
  exact h 9999

theorem run_lookup_id {mb : Nat} {xs : List Int} {c : Nat} (x : Int) (w : World) (hm : w.heap[mb]? = some (.map (idEntries 0 xs).toArray c)) :
    (Instr.lookup 188 (.map (some mb)) (.int .i64 x) false).run Tryz.prog w = .ok (.bool (decide (x ∈ xs))) w := by
  have h1 := run_findIds x xs w
  by_cases hx : x ∈ xs
  · rw [if_pos hx] at h1
    simp [Instr.lookup, go_sem, getObj, Sem.run, hm, id_check, h1, hx]
  · rw [if_neg hx] at h1
    simp [Instr.lookup, go_sem, getObj, Sem.run, hm, id_check, h1, hx]

theorem run_update_id {mb : Nat} {xs : List Int} (x : Int) (w : World) (hm : w.heap[mb]? = some (.map (idEntries 0 xs).toArray xs.length)) (hx : x ∉ xs) :
    (Instr.mapUpdate 188 (.map (some mb)) (.int .i64 x) (.bool true)).run Tryz.prog w = .ok () (setB w mb (.map (idEntries 0 (xs ++ [x])).toArray (xs ++ [x]).length)) := by
  have h1 := run_findIds x xs w
  rw [if_neg hx] at h1
  rw [idEntries_push]
  simp [Instr.mapUpdate, go_sem, getObj, setObj, Sem.run, hm, id_check, h1, setB]

end Go.Proofs.YtclpndigmidjkaaGreat

/- Changes in memory, and the walk of patch.balanced. -/
set_option linter.unusedSimpArgs false
set_option linter.unusedVariables false
namespace Go.Proofs.YtclpndigmidjkaaGreat
open Go.RowKit

structure Chg where
  at_ : Int
  n : Int
  text : Int

/-- The changes lie at an address (if there are any). -/
def ChgsAt (w : World) (a : Option Addr) (cs : List Chg) : Prop :=
  ∀ i (h : i < cs.length), ∃ b off, a = some ⟨b, off, none⟩ ∧ b < w.heap.size ∧ w.cell? ⟨b, off + i * 3, none⟩ = some (.int .i64 cs[i].at_) ∧ w.cell? ⟨b, off + i * 3 + 1, none⟩ = some (.int .i64 cs[i].n) ∧ w.cell? ⟨b, off + i * 3 + 2, none⟩ = some (.int .i64 cs[i].text)

theorem ChgsAt.kept0 {w w' : World} {a : Option Addr} {cs : List Chg} (h : ChgsAt w a cs) (hf : Fr0 w w') : ChgsAt w' a cs := by
  intro i hi
  obtain ⟨b, off, h1, h2, h3, h4, h5⟩ := h i hi
  exact ⟨b, off, h1, by have := hf.size'; omega, (hf.cell b _ h2).trans h3, (hf.cell b _ h2).trans h4, (hf.cell b _ h2).trans h5⟩

set_option maxRecDepth 100000 in
set_option maxHeartbeats 1000000 in
theorem pat_balanced_ok {w : World} {p mb : Nat} {most : Int} {sv : Value} {L : List Ent} (hS : St w p mb most sv L) (a : Option Addr) (cap : Nat) (cs : List Chg) (hc : ChgsAt w a cs) (hl : cs.length ≤ 1000000) (hk : ∀ c ∈ cs, isKnown L c.text ∧ (entAt L c.text).even = true) :
    Calls Tryz.prog 63 #[.pointer (some ⟨p, 0, none⟩), .slice a cs.length cap] w fun e w' => e = .returned .nilIface ∧ Fr0 w w' := by
  have hmm := @run_makeMap Tryz.prog
  have HC := Lib.hid hc
  have HS := Lib.hid hS
  have HK := Lib.hid hk
  clear hc hS hk
  go_enter Tryz.func63, Tryz.ntmps63
  go_wp2_with fail
  clear hmm
  obtain ⟨M, hM⟩ : ∃ M, M = w.heap.size := ⟨_, rfl⟩
  rw [← hM]
  have HM := Lib.hid hM
  clear hM
  go_loopw [13] (fun i wr => ∃ (k : Nat) (xs : List Int), k ≤ cs.length ∧ i = .int .i64 k ∧ Fr0 w wr ∧ wr.heap[M]? = some (.map (idEntries 0 xs).toArray xs.length)) (fun i _ => cs.length - (intOf i).toNat)
  case atStart => exact ⟨0, [], Nat.zero_le _, rfl, (Fr0.refl w).alloc _, alloc_at _ _ _ HM.out⟩
  case round =>
    obtain ⟨k, xs, hk, rfl, hfr, hm⟩ := hrel
    by_cases hlt : k < cs.length
    · obtain ⟨b, off, hab, lb, d0, d1, d2⟩ := (HC.out.kept0 hfr) k hlt
      obtain ⟨k1, k2⟩ := HK.out cs[k] (List.getElem_mem _)
      subst hab
      generalize cs[k] = c at *
      have hlk := fun (o : Obj) => run_lookup_id c.text (wr.alloc o) ((alloc_lt _ _ _ (lt_of_block hm)).trans hm)
      have lM := lt_of_block hm
      have HMM := Lib.hid hm
      clear hm
      by_cases hx : c.text ∈ xs
      · simp only [hx, decide_true] at hlk
        go_wp2_with fail
        go_roundw
        case rel => exact ⟨k + 1, xs, by omega, by go_num, hfr.alloc _, (alloc_lt _ _ _ lM).trans HMM.out⟩
        case measure => simp [intOf]; omega
      · simp only [hx, decide_false] at hlk
        go_wp2_with fail
        refine (avl_Balanced (HS.out.kept0 (hfr.alloc _)) c.text k1).mono ?_
        rintro e w2 ⟨rfl, hf2⟩
        rw [k2]
        have hm2 := hf2.kept ((alloc_lt _ _ _ lM).trans HMM.out)
        have hup := run_update_id c.text w2 hm2 hx
        have d2' : w2.cell? ⟨wr.heap.size, 2, none⟩ = some (.int .i64 c.text) := (hf2.cell _ _ (by simp)).trans (by rw [cell_of_block (alloc_at _ _ _ rfl)]; rfl)
        have lM2 := lt_of_block hm2
        generalize hW3 : setB w2 M (.map (idEntries 0 (xs ++ [c.text])).toArray (xs ++ [c.text]).length) = W3 at *
        have HW3 := Lib.hid hW3
        clear hW3 hm2 hlk
        have hf02 : Fr0 w w2 := (hfr.alloc _).trans hf2
        go_wp2_with fail
        go_roundw
        case rel =>
          refine ⟨k + 1, xs ++ [c.text], by omega, by go_num, ?_, ?_⟩
          · rw [← HW3.out]; exact Fr.setB hf02 M _ (fun h => by have := HM.out; omega)
          · rw [← HW3.out]; exact setB_same lM2
        case measure => simp [intOf]; omega
    · go_wp2_with fail
      go_ret
      exact ⟨rfl, hfr⟩

set_option maxRecDepth 100000 in
set_option maxHeartbeats 1000000 in
theorem pat_balanced_form {w : World} {p mb : Nat} {most : Int} {sv : Value} {L : List Ent} (hS : St w p mb most sv L) (a : Option Addr) (cap : Nat) (cs : List Chg) (hc : ChgsAt w a cs) (hl : cs.length ≤ 1000000) (hk : ∀ c ∈ cs, isKnown L c.text) (hbad : ∃ c ∈ cs, (entAt L c.text).even = false) :
    Calls Tryz.prog 63 #[.pointer (some ⟨p, 0, none⟩), .slice a cs.length cap] w fun e w' => e = .returned (.iface 52 (.int .i64 4)) ∧ Fr0 w w' := by
  have hmm := @run_makeMap Tryz.prog
  have HC := Lib.hid hc
  have HS := Lib.hid hS
  have HK := Lib.hid hk
  have HBAD := Lib.hid hbad
  clear hc hS hk hbad
  go_enter Tryz.func63, Tryz.ntmps63
  go_wp2_with fail
  clear hmm
  obtain ⟨M, hM⟩ : ∃ M, M = w.heap.size := ⟨_, rfl⟩
  rw [← hM]
  have HM := Lib.hid hM
  clear hM
  go_loopw [13] (fun i wr => ∃ (k : Nat) (xs : List Int), k ≤ cs.length ∧ i = .int .i64 k ∧ Fr0 w wr ∧ wr.heap[M]? = some (.map (idEntries 0 xs).toArray xs.length) ∧ (∀ x ∈ xs, (entAt L x).even = true) ∧ (∀ c ∈ cs.take k, (entAt L c.text).even = true)) (fun i _ => cs.length - (intOf i).toNat)
  case atStart => exact ⟨0, [], Nat.zero_le _, rfl, (Fr0.refl w).alloc _, alloc_at _ _ _ HM.out, fun x hx => by simp at hx, fun c hc => by simp at hc⟩
  case round =>
    obtain ⟨k, xs, hk, rfl, hfr, hm, hxs, hcs⟩ := hrel
    have HXS := Lib.hid hxs
    have HCS := Lib.hid hcs
    clear hxs hcs
    by_cases hlt : k < cs.length
    · obtain ⟨b, off, hab, lb, d0, d1, d2⟩ := (HC.out.kept0 hfr) k hlt
      have k1 := HK.out cs[k] (List.getElem_mem _)
      have HT := Lib.hid (List.take_succ_eq_append_getElem hlt)
      subst hab
      generalize cs[k] = c at *
      have hlk := fun (o : Obj) => run_lookup_id c.text (wr.alloc o) ((alloc_lt _ _ _ (lt_of_block hm)).trans hm)
      have lM := lt_of_block hm
      have HMM := Lib.hid hm
      clear hm
      by_cases hx : c.text ∈ xs
      · simp only [hx, decide_true] at hlk
        go_wp2_with fail
        go_roundw
        case rel => exact ⟨k + 1, xs, by omega, by go_num, hfr.alloc _, (alloc_lt _ _ _ lM).trans HMM.out, HXS.out, fun c' hc' => by rw [HT.out] at hc'; rcases List.mem_append.1 hc' with h | h; exact HCS.out c' h; simp at h; subst h; exact HXS.out _ hx⟩
        case measure => simp [intOf]; omega
      · simp only [hx, decide_false] at hlk
        go_wp2_with fail
        refine (avl_Balanced (HS.out.kept0 (hfr.alloc _)) c.text k1).mono ?_
        rintro e w2 ⟨rfl, hf2⟩
        cases hev : (entAt L c.text).even with
        | false =>
          clear hlk
          go_wp2_with fail
          go_ret
          exact ⟨rfl, (hfr.alloc _).trans hf2⟩
        | true =>
          have HEV := Lib.hid hev
          clear hev
          have hm2 := hf2.kept ((alloc_lt _ _ _ lM).trans HMM.out)
          have hup := run_update_id c.text w2 hm2 hx
          have d2' : w2.cell? ⟨wr.heap.size, 2, none⟩ = some (.int .i64 c.text) := (hf2.cell _ _ (by simp)).trans (by rw [cell_of_block (alloc_at _ _ _ rfl)]; rfl)
          have lM2 := lt_of_block hm2
          generalize hW3 : setB w2 M (.map (idEntries 0 (xs ++ [c.text])).toArray (xs ++ [c.text]).length) = W3 at *
          have HW3 := Lib.hid hW3
          clear hW3 hm2 hlk
          have hf02 : Fr0 w w2 := (hfr.alloc _).trans hf2
          go_wp2_with fail
          go_roundw
          case rel =>
            refine ⟨k + 1, xs ++ [c.text], by omega, by go_num, ?_, ?_, fun x hx' => by rcases List.mem_append.1 hx' with h | h; exact HXS.out x h; simp at h; subst h; exact HEV.out, fun c' hc' => by rw [HT.out] at hc'; rcases List.mem_append.1 hc' with h | h; exact HCS.out c' h; simp at h; subst h; exact HEV.out⟩
            · rw [← HW3.out]; exact Fr.setB hf02 M _ (fun h => by have := HM.out; omega)
            · rw [← HW3.out]; exact setB_same lM2
          case measure => simp [intOf]; omega
    · exfalso
      obtain ⟨c, hc1, hc2⟩ := HBAD.out
      have := HCS.out c (by rw [List.take_of_length_le (by omega)]; exact hc1)
      rw [this] at hc2
      cases hc2

end Go.Proofs.YtclpndigmidjkaaGreat

/- The walk of patch.Check. -/
set_option linter.unusedSimpArgs false
set_option linter.unusedVariables false
namespace Go.Proofs.YtclpndigmidjkaaGreat
open Go.RowKit

/-- One change fits behind the change before. -/
def fitB (length last : Int) (c : Chg) : Bool := decide (0 ≤ c.at_ ∧ 0 ≤ c.n ∧ c.at_ + c.n ≤ length ∧ last < c.at_ ∧ ¬ (c.n = 0 ∧ c.text = 0))

/-- The changes are a patch of a text of a length. -/
def formedFrom (length : Int) : Int → List Chg → Bool
  | _, [] => true
  | last, c :: r => fitB length last c && formedFrom length (c.at_ + c.n) r

set_option maxRecDepth 100000 in
set_option maxHeartbeats 1000000 in
theorem pat_Check_unknown {w : World} {p mb : Nat} {most : Int} {sv : Value} {L : List Ent} (hS : St w p mb most sv L) (length : Int) (h0 : 0 ≤ length) (h1 : length ≤ 1152921504606846976) (a : Option Addr) (cap : Nat) (cs : List Chg) (hc : ChgsAt w a cs) (hl : cs.length ≤ 1000000) (hbad : ∃ c ∈ cs, ¬ isKnown L c.text) :
    Calls Tryz.prog 17 #[.pointer (some ⟨p, 0, none⟩), .int .i64 length, .slice a cs.length cap] w fun e w' => e = .returned (.iface 52 (.int .i64 1)) ∧ Fr0 w w' := by
  have CV := Lib.hid (len_Valid_yes length w h0 h1)
  have HC := Lib.hid hc
  have HS := Lib.hid hS
  have HBAD := Lib.hid hbad
  clear hc hS hbad
  go_enter Tryz.func17, Tryz.ntmps17
  go_wp2_with fail
  refine CV.out.mono ?_
  rintro e w' ⟨rfl, rfl⟩
  go_wp2_with fail
  go_loopw [21] (fun i wr => ∃ (k : Nat), k ≤ cs.length ∧ i = .int .i64 k ∧ Fr0 w wr ∧ Hid (∀ c ∈ cs.take k, isKnown L c.text)) (fun i _ => cs.length - (intOf i).toNat)
  case atStart => exact ⟨0, Nat.zero_le _, rfl, Fr0.refl w, fun c hc => by simp at hc⟩
  case round =>
    obtain ⟨k, hk, rfl, hfr, HK⟩ := hrel
    by_cases hlt : k < cs.length
    · obtain ⟨b, off, hab, lb, d0, d1, d2⟩ := (HC.out.kept0 hfr) k hlt
      have HT := Lib.hid (List.take_succ_eq_append_getElem hlt)
      subst hab
      generalize cs[k] = c at *
      by_cases hkn : isKnown L c.text
      · have CU := Lib.hid (fun W (hf : Fr0 wr W) => patch_unknown (HS.out.kept0 (hfr.trans hf)) c.text false (by obtain ⟨a1, a2⟩ := hkn; symm; simp; omega))
        have HKN := Lib.hid hkn
        clear hkn
        go_wp2_with fail
        refine (CU.out _ ((Fr0.refl wr).alloc _)).mono ?_
        rintro e w' ⟨rfl, rfl⟩
        go_wp2_with fail
        go_roundw
        case rel => exact ⟨k + 1, by omega, by go_num, hfr.alloc _, fun c' hc' => by rw [HT.out] at hc'; rcases List.mem_append.1 hc' with h | h; exact HK.out c' h; simp at h; subst h; exact HKN.out⟩
        case measure => simp [intOf]; omega
      · have CU := Lib.hid (fun W (hf : Fr0 wr W) => patch_unknown (HS.out.kept0 (hfr.trans hf)) c.text true (by unfold isKnown at hkn; symm; simp; omega))
        clear hkn
        go_wp2_with fail
        refine (CU.out _ ((Fr0.refl wr).alloc _)).mono ?_
        rintro e w' ⟨rfl, rfl⟩
        go_wp2_with fail
        go_ret
        exact ⟨rfl, hfr.alloc _⟩
    · exfalso
      obtain ⟨c, hc1, hc2⟩ := HBAD.out
      exact hc2 (HK.out c (by rw [List.take_of_length_le (by omega)]; exact hc1))

end Go.Proofs.YtclpndigmidjkaaGreat

/- The walk of patch.Check where every text is known. -/
set_option linter.unusedSimpArgs false
set_option linter.unusedVariables false
namespace Go.Proofs.YtclpndigmidjkaaGreat
open Go.RowKit

theorem fitB_true {length last : Int} {c : Chg} (h : fitB length last c = true) : 0 ≤ c.at_ ∧ 0 ≤ c.n ∧ c.at_ + c.n ≤ length ∧ last < c.at_ ∧ ¬ (c.n = 0 ∧ c.text = 0) := by
  exact of_decide_eq_true h

theorem formed_drop {length last : Int} {cs : List Chg} {k : Nat} (h : k < cs.length) {b : Bool} (hf : formedFrom length last (cs.drop k) = b) : (fitB length last cs[k] && formedFrom length (cs[k].at_ + cs[k].n) (cs.drop (k + 1))) = b := by
  rw [List.drop_eq_getElem_cons h] at hf
  exact hf

set_option maxRecDepth 100000 in
set_option maxHeartbeats 2000000 in
theorem pat_Check_formed {w : World} {p mb : Nat} {most : Int} {sv : Value} {L : List Ent} (hS : St w p mb most sv L) (length : Int) (h0 : 0 ≤ length) (h1 : length ≤ 1152921504606846976) (a : Option Addr) (cap : Nat) (cs : List Chg) (hc : ChgsAt w a cs) (hl : cs.length ≤ 1000000) (hk : ∀ c ∈ cs, isKnown L c.text)
    (hfm : formedFrom length (-1) cs = true) (R : Value) (hB : ∀ W, Fr0 w W → Calls Tryz.prog 63 #[.pointer (some ⟨p, 0, none⟩), .slice a cs.length cap] W fun e w' => e = .returned R ∧ Fr0 W w') :
    Calls Tryz.prog 17 #[.pointer (some ⟨p, 0, none⟩), .int .i64 length, .slice a cs.length cap] w fun e w' => e = .returned R ∧ Fr0 w w' := by
  have CV := Lib.hid (len_Valid_yes length w h0 h1)
  have HC := Lib.hid hc
  have HS := Lib.hid hS
  have HK := Lib.hid hk
  have HF := Lib.hid hfm
  have HB := Lib.hid hB
  clear hc hS hk hfm hB
  go_enter Tryz.func17, Tryz.ntmps17
  go_wp2_with fail
  refine CV.out.mono ?_
  rintro e w' ⟨rfl, rfl⟩
  go_wp2_with fail
  go_loopw [21] (fun i wr => ∃ (k : Nat), k ≤ cs.length ∧ i = .int .i64 k ∧ Fr0 w wr) (fun i _ => cs.length - (intOf i).toNat)
  case atStart => exact ⟨0, Nat.zero_le _, rfl, Fr0.refl w⟩
  case round =>
    obtain ⟨k, hk, rfl, hfr⟩ := hrel
    by_cases hlt : k < cs.length
    · obtain ⟨b, off, hab, lb, d0, d1, d2⟩ := (HC.out.kept0 hfr) k hlt
      have hkn := HK.out cs[k] (List.getElem_mem _)
      subst hab
      generalize cs[k] = c at *
      have CU := Lib.hid (fun W (hf : Fr0 wr W) => patch_unknown (HS.out.kept0 (hfr.trans hf)) c.text false (by obtain ⟨a1, a2⟩ := hkn; symm; simp; omega))
      clear hkn
      go_wp2_with fail
      refine (CU.out _ ((Fr0.refl wr).alloc _)).mono ?_
      rintro e w' ⟨rfl, rfl⟩
      go_wp2_with fail
      go_roundw
      case rel => exact ⟨k + 1, by omega, by go_num, hfr.alloc _⟩
      case measure => simp [intOf]; omega
    · go_wp2_with fail
      clear hlt hk
      obtain ⟨wo, rfl⟩ : ∃ wo : World, wo = wr := ⟨_, rfl⟩
      go_loopw [9, 33] (fun la i wr => ∃ (k : Nat) (last : Int), k ≤ cs.length ∧ i = .int .i64 k ∧ la = .int .i64 last ∧ Fr0 w wr ∧ Hid (formedFrom length last (cs.drop k) = true)) (fun _ i _ => cs.length - (intOf i).toNat)
      case atStart => exact ⟨0, -1, Nat.zero_le _, rfl, rfl, hfr, HF.out⟩
      case round =>
        clear hfr
        obtain ⟨k, last, hk, rfl, rfl, hfr, HFM⟩ := hrel
        by_cases hlt : k < cs.length
        · obtain ⟨b, off, hab, lb, d0, d1, d2⟩ := (HC.out.kept0 hfr) k hlt
          have hfd := formed_drop hlt HFM.out
          rw [Bool.and_eq_true] at hfd
          obtain ⟨hfit, hnx⟩ := hfd
          have HNX := Lib.hid hnx
          obtain ⟨t1, t2, t3, t4, t5⟩ := fitB_true hfit
          clear hnx hfit HFM
          subst hab
          generalize cs[k] = c at *
          have CR := Lib.hid (fun w => len_Range_ok c.at_ c.n length w t1 t2 t3 h1)
          have q1 : decide (c.at_ ≤ last) = false := decide_eq_false (by omega)
          by_cases hn : c.n = 0
          · have q2 : (c.text == 0) = false := by simp; exact fun h => t5 ⟨hn, h⟩
            have q3 : (c.n == 0) = true := by simpa using hn
            clear t5 hn
            go_wp2_with fail
            refine (CR.out _).mono ?_
            rintro e w' ⟨rfl, rfl⟩
            go_wp2_with fail
            go_roundw
            case rel => exact ⟨k + 1, c.at_ + c.n, by omega, by go_num, rfl, hfr.alloc _, HNX⟩
            case measure => simp [intOf]; omega
          · have q3 : (c.n == 0) = false := by simpa using hn
            clear t5 hn
            go_wp2_with fail
            refine (CR.out _).mono ?_
            rintro e w' ⟨rfl, rfl⟩
            go_wp2_with fail
            go_roundw
            case rel => exact ⟨k + 1, c.at_ + c.n, by omega, by go_num, rfl, hfr.alloc _, HNX⟩
            case measure => simp [intOf]; omega
        · go_wp2_with fail
          refine (HB.out _ hfr).mono ?_
          rintro e w2 ⟨rfl, hf2⟩
          go_wp2_with fail
          go_ret
          exact ⟨rfl, hfr.trans hf2⟩

set_option maxRecDepth 100000 in
set_option maxHeartbeats 2000000 in
theorem pat_Check_form {w : World} {p mb : Nat} {most : Int} {sv : Value} {L : List Ent} (hS : St w p mb most sv L) (length : Int) (h0 : 0 ≤ length) (h1 : length ≤ 1152921504606846976) (a : Option Addr) (cap : Nat) (cs : List Chg) (hc : ChgsAt w a cs) (hl : cs.length ≤ 1000000) (hk : ∀ c ∈ cs, isKnown L c.text)
    (hfm : formedFrom length (-1) cs = false) :
    Calls Tryz.prog 17 #[.pointer (some ⟨p, 0, none⟩), .int .i64 length, .slice a cs.length cap] w fun e w' => e = .returned (.iface 52 (.int .i64 4)) ∧ Fr0 w w' := by
  have CV := Lib.hid (len_Valid_yes length w h0 h1)
  have HC := Lib.hid hc
  have HS := Lib.hid hS
  have HK := Lib.hid hk
  have HF := Lib.hid hfm
  clear hc hS hk hfm
  go_enter Tryz.func17, Tryz.ntmps17
  go_wp2_with fail
  refine CV.out.mono ?_
  rintro e w' ⟨rfl, rfl⟩
  go_wp2_with fail
  go_loopw [21] (fun i wr => ∃ (k : Nat), k ≤ cs.length ∧ i = .int .i64 k ∧ Fr0 w wr) (fun i _ => cs.length - (intOf i).toNat)
  case atStart => exact ⟨0, Nat.zero_le _, rfl, Fr0.refl w⟩
  case round =>
    obtain ⟨k, hk, rfl, hfr⟩ := hrel
    by_cases hlt : k < cs.length
    · obtain ⟨b, off, hab, lb, d0, d1, d2⟩ := (HC.out.kept0 hfr) k hlt
      have hkn := HK.out cs[k] (List.getElem_mem _)
      subst hab
      generalize cs[k] = c at *
      have CU := Lib.hid (fun W (hf : Fr0 wr W) => patch_unknown (HS.out.kept0 (hfr.trans hf)) c.text false (by obtain ⟨a1, a2⟩ := hkn; symm; simp; omega))
      clear hkn
      go_wp2_with fail
      refine (CU.out _ ((Fr0.refl wr).alloc _)).mono ?_
      rintro e w' ⟨rfl, rfl⟩
      go_wp2_with fail
      go_roundw
      case rel => exact ⟨k + 1, by omega, by go_num, hfr.alloc _⟩
      case measure => simp [intOf]; omega
    · go_wp2_with fail
      clear hlt hk
      obtain ⟨wo, rfl⟩ : ∃ wo : World, wo = wr := ⟨_, rfl⟩
      go_loopw [9, 33] (fun la i wr => ∃ (k : Nat) (last : Int), k ≤ cs.length ∧ i = .int .i64 k ∧ la = .int .i64 last ∧ Fr0 w wr ∧ Hid (formedFrom length last (cs.drop k) = false)) (fun _ i _ => cs.length - (intOf i).toNat)
      case atStart => exact ⟨0, -1, Nat.zero_le _, rfl, rfl, hfr, HF.out⟩
      case round =>
        clear hfr
        obtain ⟨k, last, hk, rfl, rfl, hfr, HFM⟩ := hrel
        by_cases hlt : k < cs.length
        · obtain ⟨b, off, hab, lb, d0, d1, d2⟩ := (HC.out.kept0 hfr) k hlt
          have hfd := formed_drop hlt HFM.out
          subst hab
          cases hfit : fitB length last cs[k] with
          | true =>
            rw [hfit, Bool.true_and] at hfd
            have HNX := Lib.hid hfd
            obtain ⟨t1, t2, t3, t4, t5⟩ := fitB_true hfit
            clear hfit HFM hfd
            generalize cs[k] = c at *
            have CR := Lib.hid (fun w => len_Range_ok c.at_ c.n length w t1 t2 t3 h1)
            have q1 : decide (c.at_ ≤ last) = false := decide_eq_false (by omega)
            by_cases hn : c.n = 0
            · have q2 : (c.text == 0) = false := by simp; exact fun h => t5 ⟨hn, h⟩
              have q3 : (c.n == 0) = true := by simpa using hn
              clear t5 hn
              go_wp2_with fail
              refine (CR.out _).mono ?_
              rintro e w' ⟨rfl, rfl⟩
              go_wp2_with fail
              go_roundw
              case rel => exact ⟨k + 1, c.at_ + c.n, by omega, by go_num, rfl, hfr.alloc _, HNX⟩
              case measure => simp [intOf]; omega
            · have q3 : (c.n == 0) = false := by simpa using hn
              clear t5 hn
              go_wp2_with fail
              refine (CR.out _).mono ?_
              rintro e w' ⟨rfl, rfl⟩
              go_wp2_with fail
              go_roundw
              case rel => exact ⟨k + 1, c.at_ + c.n, by omega, by go_num, rfl, hfr.alloc _, HNX⟩
              case measure => simp [intOf]; omega
          | false =>
            clear HFM hfd
            generalize cs[k] = c at *
            by_cases hr : 0 ≤ c.at_ ∧ 0 ≤ c.n ∧ c.at_ + c.n ≤ length
            · obtain ⟨t1, t2, t3⟩ := hr
              have CR := Lib.hid (fun w => len_Range_ok c.at_ c.n length w t1 t2 t3 h1)
              by_cases ha : c.at_ ≤ last
              · have q1 : decide (c.at_ ≤ last) = true := decide_eq_true ha
                clear hfit
                go_wp2_with fail
                refine (CR.out _).mono ?_
                rintro e w' ⟨rfl, rfl⟩
                go_wp2_with fail
                go_ret
                exact ⟨rfl, hfr.alloc _⟩
              · have q1 : decide (c.at_ ≤ last) = false := decide_eq_false ha
                have hnt : c.n = 0 ∧ c.text = 0 := by
                  refine Classical.byContradiction fun hx => ?_
                  have : fitB length last c = true := by unfold fitB; exact decide_eq_true ⟨t1, t2, t3, by omega, hx⟩
                  rw [this] at hfit; cases hfit
                have q2 : (c.n == 0) = true := by simpa using hnt.1
                have q3 : (c.text == 0) = true := by simpa using hnt.2
                clear hfit hnt
                go_wp2_with fail
                refine (CR.out _).mono ?_
                rintro e w' ⟨rfl, rfl⟩
                go_wp2_with fail
                go_ret
                exact ⟨rfl, hfr.alloc _⟩
            · have CR := Lib.hid (fun w => len_Range_no c.at_ c.n length w (by omega) h0 h1)
              clear hfit hr
              go_wp2_with fail
              refine (CR.out _).mono ?_
              rintro e w' ⟨rfl, rfl⟩
              go_wp2_with fail
              go_ret
              exact ⟨rfl, hfr.alloc _⟩
        · exfalso
          have hf := HFM.out
          rw [List.drop_of_length_le (by omega)] at hf
          cases hf

end Go.Proofs.YtclpndigmidjkaaGreat

/- The walk of patch.Length. -/
set_option linter.unusedSimpArgs false
set_option linter.unusedVariables false
namespace Go.Proofs.YtclpndigmidjkaaGreat
open Go.RowKit

def sumN : List Chg → Int
  | [] => 0
  | c :: r => c.n + sumN r
def sumT (ln : Int → Int) : List Chg → Int
  | [] => 0
  | c :: r => ln c.text + sumT ln r

/-- The length of the text of an ID. -/
def lnL (L : List Ent) (id : Int) : Int := (entAt L id).wt.len

theorem sumN_snoc (cs : List Chg) (c : Chg) : sumN (cs ++ [c]) = sumN cs + c.n := by
  induction cs with
  | nil => simp [sumN]
  | cons x r ih => simp only [List.cons_append, sumN, ih]; omega
theorem sumT_snoc (ln : Int → Int) (cs : List Chg) (c : Chg) : sumT ln (cs ++ [c]) = sumT ln cs + ln c.text := by
  induction cs with
  | nil => simp [sumT]
  | cons x r ih => simp only [List.cons_append, sumT, ih]; omega
theorem sumT_split (ln : Int → Int) (cs ds : List Chg) : sumT ln (cs ++ ds) = sumT ln cs + sumT ln ds := by
  induction cs with
  | nil => simp [sumT]
  | cons x r ih => simp only [List.cons_append, sumT, ih]; omega
theorem sumT_nn {ln : Int → Int} {cs : List Chg} (h : ∀ c ∈ cs, 0 ≤ ln c.text) : 0 ≤ sumT ln cs := by
  induction cs with
  | nil => simp [sumT]
  | cons x r ih =>
    have := ih (fun c hc => h c (by simp [hc]))
    have := h x (by simp)
    simp only [sumT]; omega

theorem formed_take {length : Int} : ∀ (cs : List Chg) (last : Int) (k : Nat), formedFrom length last cs = true → formedFrom length last (cs.take k) = true
  | [], last, k, h => by simp [formedFrom]
  | c :: r, last, 0, h => by simp [formedFrom]
  | c :: r, last, k + 1, h => by
    unfold formedFrom at h
    rw [Bool.and_eq_true] at h
    rw [List.take_succ_cons]
    unfold formedFrom
    rw [Bool.and_eq_true]
    exact ⟨h.1, formed_take r _ k h.2⟩

theorem formed_sum' {length : Int} : ∀ (cs : List Chg) (last : Int), last ≤ length → formedFrom length last cs = true → sumN cs ≤ length - last
  | [], last, h0, h => by simp [sumN]; omega
  | c :: r, last, h0, h => by
    unfold formedFrom at h
    rw [Bool.and_eq_true] at h
    obtain ⟨t1, t2, t3, t4, t5⟩ := fitB_true h.1
    have := formed_sum' r _ t3 h.2
    simp only [sumN]; omega

theorem formed_sum {length : Int} (h0 : 0 ≤ length) : ∀ (cs : List Chg), formedFrom length (-1) cs = true → sumN cs ≤ length
  | [], h => by simp [sumN]; omega
  | c :: r, h => by
    unfold formedFrom at h
    rw [Bool.and_eq_true] at h
    obtain ⟨t1, t2, t3, t4, t5⟩ := fitB_true h.1
    have := formed_sum' r _ t3 h.2
    simp only [sumN]; omega

theorem formed_nn {length : Int} : ∀ (cs : List Chg) (last : Int), formedFrom length last cs = true → ∀ c ∈ cs, 0 ≤ c.n ∧ c.n ≤ length
  | [], last, h => by intro c hc; simp at hc
  | c :: r, last, h => by
    unfold formedFrom at h
    rw [Bool.and_eq_true] at h
    obtain ⟨t1, t2, t3, t4, t5⟩ := fitB_true h.1
    intro x hx
    rcases List.mem_cons.1 hx with rfl | hx
    · omega
    · exact formed_nn r _ h.2 x hx

theorem sumN_nn : ∀ {cs : List Chg}, (∀ c ∈ cs, 0 ≤ c.n) → 0 ≤ sumN cs
  | [], h => by simp [sumN]
  | c :: r, h => by
    have := sumN_nn (cs := r) (fun c hc => h c (by simp [hc]))
    have := h c (by simp)
    simp only [sumN]; omega

theorem patch_sizeL {w : World} {p mb : Nat} {most : Int} {sv : Value} {L : List Ent} (hS : St w p mb most sv L) (id : Int) (h : isKnown L id) :
    Calls Tryz.prog 64 #[.pointer (some ⟨p, 0, none⟩), .int .i64 id] w fun e w' => e = .returned (.tuple #[.int .i64 (lnL L id), .nilIface]) ∧ Fr0 w w' := patch_size hS id h

set_option maxRecDepth 100000 in
set_option maxHeartbeats 2000000 in
theorem pat_Length_ok {w : World} {p mb : Nat} {most : Int} {sv : Value} {L : List Ent} (hS : St w p mb most sv L) (hO : SOk L) (length : Int) (h0 : 0 ≤ length) (h1 : length ≤ 1152921504606846976) (a : Option Addr) (cap : Nat) (cs : List Chg) (hc : ChgsAt w a cs) (hl : cs.length ≤ 1000000) (hk : ∀ c ∈ cs, isKnown L c.text ∧ (entAt L c.text).even = true)
    (hfm : formedFrom length (-1) cs = true) (ht : length - sumN cs + sumT (lnL L) cs ≤ 1152921504606846976) :
    Calls Tryz.prog 18 #[.pointer (some ⟨p, 0, none⟩), .int .i64 length, .slice a cs.length cap] w fun e w' => e = .returned (.tuple #[.int .i64 (length - sumN cs + sumT (lnL L) cs), .nilIface]) ∧ Fr0 w w' := by
  have CK := Lib.hid (pat_Check_formed hS length h0 h1 a cap cs hc hl (fun c hc => (hk c hc).1) hfm .nilIface (fun W hW => pat_balanced_ok (hS.kept0 hW) a cap cs (hc.kept0 hW) hl hk))
  have HC := Lib.hid hc
  have HS := Lib.hid hS
  have HK := Lib.hid hk
  have HF := Lib.hid hfm
  have hnn : ∀ c ∈ cs, 0 ≤ lnL L c.text := fun c hc => (hO.at _ (hk c hc).1).1.len0
  have hN0 := formed_sum h0 cs hfm
  have hNN := Lib.hid (formed_nn cs _ hfm)
  have HNN := Lib.hid hnn
  have hsn := sumN_nn (fun c hc => (hNN.out c hc).1)
  clear hc hS hk hfm hO hnn
  obtain ⟨sN, hsN⟩ : ∃ s, sumN cs = s := ⟨_, rfl⟩
  obtain ⟨sT, hsT⟩ : ∃ s, sumT (lnL L) cs = s := ⟨_, rfl⟩
  rw [hsN] at hN0 hsn ht ⊢
  rw [hsT] at ht ⊢
  have HSN := Lib.hid hsN
  have HST := Lib.hid hsT
  clear hsN hsT
  go_enter Tryz.func18, Tryz.ntmps18
  go_wp2_with fail
  refine CK.out.mono ?_
  rintro e w1 ⟨rfl, hf1⟩
  go_wp2_with fail
  go_loopw [1, 24] (fun v i wr => ∃ (k : Nat), k ≤ cs.length ∧ i = .int .i64 k ∧ v = .int .i64 (length - sumN (cs.take k)) ∧ Fr0 w wr) (fun _ i _ => cs.length - (intOf i).toNat)
  case atStart => exact ⟨0, Nat.zero_le _, rfl, by simp [sumN], hf1⟩
  case round =>
    obtain ⟨k, hk, rfl, rfl, hfr⟩ := hrel
    have g1 := formed_sum h0 _ (formed_take cs _ k HF.out)
    have g2 : 0 ≤ sumN (cs.take k) := sumN_nn (fun c hc => (hNN.out c (List.mem_of_mem_take hc)).1)
    by_cases hlt : k < cs.length
    · obtain ⟨b, off, hab, lb, d0, d1, d2⟩ := (HC.out.kept0 hfr) k hlt
      have hcn := hNN.out cs[k] (List.getElem_mem _)
      have HT : Hid (sumN (cs.take (k + 1)) = sumN (cs.take k) + cs[k].n) := by show _ = _; rw [List.take_succ_eq_append_getElem hlt, sumN_snoc]
      subst hab
      generalize cs[k] = c at *
      generalize sumN (cs.take k) = s0 at *
      go_wp2_with fail
      go_roundw
      case rel => exact ⟨k + 1, by omega, by go_num, by rw [HT.out]; go_num, hfr.alloc _⟩
      case measure => simp [intOf]; omega
    · have hke : Hid (sumN (cs.take k) = sN) := by show _ = _; rw [List.take_of_length_le (by omega)]; exact HSN.out
      rw [hke.out]
      clear g1 g2 hke
      go_wp2_with fail
      clear hlt hk
      obtain ⟨wo, rfl⟩ : ∃ wo : World, wo = wr := ⟨_, rfl⟩
      go_loopw [1, 35] (fun v i wr => ∃ (k : Nat), k ≤ cs.length ∧ i = .int .i64 k ∧ v = .int .i64 (length - sN + sumT (lnL L) (cs.take k)) ∧ Fr0 w wr) (fun _ i _ => cs.length - (intOf i).toNat)
      case atStart => exact ⟨0, Nat.zero_le _, rfl, by simp [sumT], hfr⟩
      case round =>
        clear hfr
        obtain ⟨k, hk, rfl, rfl, hfr⟩ := hrel
        have g2 : 0 ≤ sumT (lnL L) (cs.take k) := sumT_nn (fun c hc => HNN.out c (List.mem_of_mem_take hc))
        by_cases hlt : k < cs.length
        · obtain ⟨b, off, hab, lb, d0, d1, d2⟩ := (HC.out.kept0 hfr) k hlt
          have hln := HNN.out cs[k] (List.getElem_mem _)
          have g3 : 0 ≤ sumT (lnL L) (cs.drop (k + 1)) := sumT_nn (fun c hc => HNN.out c (List.mem_of_mem_drop hc))
          have g4 : sT = sumT (lnL L) (cs.take (k + 1)) + sumT (lnL L) (cs.drop (k + 1)) := by rw [← sumT_split, List.take_append_drop]; exact HST.out.symm
          have g5 : sumT (lnL L) (cs.take (k + 1)) = sumT (lnL L) (cs.take k) + lnL L cs[k].text := by rw [List.take_succ_eq_append_getElem hlt, sumT_snoc]
          have HT := Lib.hid g5
          have CSZ := Lib.hid (fun W (hf : Fr0 wr W) => patch_sizeL (HS.out.kept0 (hfr.trans hf)) cs[k].text (HK.out cs[k] (List.getElem_mem _)).1)
          have CAD := Lib.hid (fun W => len_Add_ok (length - sN + sumT (lnL L) (cs.take k)) (lnL L cs[k].text) W (by omega) hln (by omega))
          clear g3 g4 g5
          subst hab
          generalize cs[k] = c at *
          generalize sumT (lnL L) (cs.take k) = s0 at *
          generalize lnL L c.text = l0 at *
          go_wp2_with fail
          refine (CSZ.out _ ((Fr0.refl wr).alloc _)).mono ?_
          rintro e w3 ⟨rfl, hf3⟩
          go_wp2_with fail
          refine (CAD.out _).mono ?_
          rintro e w4 ⟨rfl, rfl⟩
          go_wp2_with fail
          go_roundw
          case rel => exact ⟨k + 1, by omega, by go_num, by rw [HT.out]; go_num, hfr.trans (((Fr0.refl wr).alloc _).trans hf3)⟩
          case measure => simp [intOf]; omega
        · have hke : Hid (sumT (lnL L) (cs.take k) = sT) := by show _ = _; rw [List.take_of_length_le (by omega)]; exact HST.out
          rw [hke.out]
          clear g2 hke
          go_wp2_with fail
          go_ret2
          exact ⟨rfl, hfr⟩

set_option maxRecDepth 100000 in
set_option maxHeartbeats 1000000 in
theorem pat_Length_err {w : World} {p : Nat} (length : Int) (pv : Value) (n : Int) (hK : Calls Tryz.prog 17 #[.pointer (some ⟨p, 0, none⟩), .int .i64 length, pv] w fun e w' => e = .returned (.iface 52 (.int .i64 n)) ∧ Fr0 w w') :
    Calls Tryz.prog 18 #[.pointer (some ⟨p, 0, none⟩), .int .i64 length, pv] w fun e w' => e = .returned (.tuple #[.int .i64 0, .iface 52 (.int .i64 n)]) ∧ Fr0 w w' := by
  have CK := Lib.hid hK
  clear hK
  go_enter Tryz.func18, Tryz.ntmps18
  go_wp2_with fail
  refine CK.out.mono ?_
  rintro e w1 ⟨rfl, hf1⟩
  go_wp2_with fail
  go_ret2
  exact ⟨rfl, hf1⟩

end Go.Proofs.YtclpndigmidjkaaGreat

/- Plain words: patches of plain texts. No program. -/
set_option linter.unusedSimpArgs false
set_option linter.unusedVariables false
namespace Go.Proofs.YtclpndigmidjkaaGreat
open Go.RowKit

/-- A change with a plain text. -/
structure PC where
  at_ : Int
  n : Int
  text : List Int

/-- The bounds of the changes. -/
def ats (ps : List PC) : List Int := ps.flatMap fun c => [c.at_, c.at_ + c.n]

theorem ats_cons (c : PC) (r : List PC) : ats (c :: r) = c.at_ :: (c.at_ + c.n) :: ats r := rfl
theorem ats_len (ps : List PC) : (ats ps).length = 2 * ps.length := by
  induction ps with
  | nil => rfl
  | cons c r ih => rw [ats_cons]; simp only [List.length_cons, ih]; omega
theorem ats_snoc (ps : List PC) (c : PC) : ats (ps ++ [c]) = ats ps ++ [c.at_, c.at_ + c.n] := by simp [ats]

/-- The patched letters behind an offset. -/
def patG {α : Type} (emb : Int → α) (t : List α) : Int → List PC → List α
  | f, [] => t.drop f.toNat
  | f, c :: r => (t.drop f.toNat).take (c.at_ - f).toNat ++ (c.text.map emb ++ patG emb t (c.at_ + c.n) r)

/-- The patched text. -/
def patR (t : List Int) (ps : List PC) : List Int := patG id t 0 ps

def fitP (length last : Int) (c : PC) : Bool := decide (0 ≤ c.at_ ∧ 0 ≤ c.n ∧ c.at_ + c.n ≤ length ∧ last < c.at_ ∧ ¬ (c.n = 0 ∧ c.text = []))

/-- The changes are a patch of a text of a length. -/
def validP (length : Int) : Int → List PC → Bool
  | _, [] => true
  | last, c :: r => fitP length last c && validP length (c.at_ + c.n) r

theorem fitP_true {length last : Int} {c : PC} (h : fitP length last c = true) : 0 ≤ c.at_ ∧ 0 ≤ c.n ∧ c.at_ + c.n ≤ length ∧ last < c.at_ ∧ ¬ (c.n = 0 ∧ c.text = []) := of_decide_eq_true h

theorem validP_drop {length last : Int} {ps : List PC} {k : Nat} (h : k < ps.length) {b : Bool} (hf : validP length last (ps.drop k) = b) : (fitP length last ps[k] && validP length (ps[k].at_ + ps[k].n) (ps.drop (k + 1))) = b := by
  rw [List.drop_eq_getElem_cons h] at hf
  exact hf

/-- Changes of a store whose texts are those of plain changes. -/
def PChg (L : List Ent) : List Chg → List PC → Prop
  | [], [] => True
  | c :: cs, p :: ps => (c.at_ = p.at_ ∧ c.n = p.n ∧ ∃ d, BalZ L c.text p.text d) ∧ PChg L cs ps
  | _, _ => False

theorem PChg.len {L : List Ent} : ∀ {cs : List Chg} {ps : List PC}, PChg L cs ps → cs.length = ps.length
  | [], [], _ => rfl
  | _ :: cs, _ :: ps, h => by simp [PChg.len h.2]
theorem PChg.more {L L' : List Ent} {n : Nat} (hg : Grows L L' n) (hd : DOk L) : ∀ {cs : List Chg} {ps : List PC}, PChg L cs ps → PChg L' cs ps
  | [], [], _ => trivial
  | _ :: cs, _ :: ps, h => ⟨⟨h.1.1, h.1.2.1, by obtain ⟨d, hb⟩ := h.1.2.2; exact ⟨d, hg.balz hd hb⟩⟩, PChg.more hg hd h.2⟩
theorem PChg.snoc {L : List Ent} : ∀ {cs : List Chg} {ps : List PC}, PChg L cs ps → ∀ {c : Chg} {p : PC} {d : Int}, c.at_ = p.at_ → c.n = p.n → BalZ L c.text p.text d → PChg L (cs ++ [c]) (ps ++ [p])
  | [], [], _, _, _, _, h1, h2, hb => ⟨⟨h1, h2, ⟨_, hb⟩⟩, trivial⟩
  | _ :: cs, _ :: ps, h, _, _, _, h1, h2, hb => ⟨h.1, PChg.snoc h.2 h1 h2 hb⟩
theorem PChg.get {L : List Ent} : ∀ {cs : List Chg} {ps : List PC}, PChg L cs ps → ∀ (i : Nat) (h1 : i < cs.length) (h2 : i < ps.length), cs[i].at_ = ps[i].at_ ∧ cs[i].n = ps[i].n ∧ ∃ d, BalZ L cs[i].text ps[i].text d
  | _ :: cs, _ :: ps, h, 0, _, _ => h.1
  | _ :: cs, _ :: ps, h, i + 1, h1, h2 => by
    have := PChg.get h.2 i (by simpa using h1) (by simpa using h2)
    simpa using this
theorem PChg.all {L : List Ent} : ∀ {cs : List Chg} {ps : List PC}, PChg L cs ps → AllB L (cs.map Chg.text) (ps.map PC.text)
  | [], [], _ => trivial
  | _ :: cs, _ :: ps, h => ⟨h.1.2.2, PChg.all h.2⟩
theorem PChg.known {L : List Ent} : ∀ {cs : List Chg} {ps : List PC}, PChg L cs ps → ∀ c ∈ cs, isKnown L c.text ∧ (entAt L c.text).even = true
  | [], [], _, c, hc => by simp at hc
  | x :: cs, y :: ps, h, c, hc => by
    rcases List.mem_cons.1 hc with rfl | hc
    · obtain ⟨d, hb⟩ := h.1.2.2; exact ⟨hb.known, hb.even⟩
    · exact PChg.known h.2 c hc
theorem BalZ.nil_iff {L : List Ent} {id : Int} {t : List Int} {d : Int} (h : BalZ L id t d) (hd : DOk L) (hs : SOk L) : id = 0 ↔ t = [] := by
  refine ⟨fun e => (h.of0 e).1, fun e => ?_⟩
  refine Classical.byContradiction fun hn => ?_
  have := (h.bal hn).pos hd hs
  rw [e] at this
  simp at this
theorem PChg.valid {L : List Ent} (hd : DOk L) (hs : SOk L) {length : Int} : ∀ {cs : List Chg} {ps : List PC}, PChg L cs ps → ∀ last, formedFrom length last cs = validP length last ps
  | [], [], _, last => rfl
  | c :: cs, p :: ps, h, last => by
    obtain ⟨⟨h1, h2, d, hb⟩, h3⟩ := h
    have e := hb.nil_iff hd hs
    simp only [formedFrom, validP, h1, h2, PChg.valid hd hs h3]
    congr 1
    unfold fitB fitP
    rw [h1, h2]
    congr 1
    rw [e]

/-- The letters that are deleted, and inserted. -/
def delP : List PC → Int
  | [] => 0
  | c :: r => c.n + delP r
def insP : List PC → Nat
  | [] => 0
  | c :: r => c.text.length + insP r

theorem PChg.del {L : List Ent} : ∀ {cs : List Chg} {ps : List PC}, PChg L cs ps → sumN cs = delP ps
  | [], [], _ => rfl
  | c :: cs, p :: ps, h => by simp only [sumN, delP, PChg.del h.2, h.1.2.1]
theorem PChg.ins {L : List Ent} (hd : DOk L) (hs : SOk L) : ∀ {cs : List Chg} {ps : List PC}, PChg L cs ps → sumT (lnL L) cs = insP ps
  | [], [], _ => rfl
  | c :: cs, p :: ps, h => by
    obtain ⟨d, hb⟩ := h.1.2.2
    have := hb.len hd hs
    simp only [sumT, insP, PChg.ins hd hs h.2, lnL, ← this]
    omega

/-- The length of a patched text. -/
theorem patG_len {α : Type} (emb : Int → α) (t : List α) : ∀ (ps : List PC) (f last : Int), validP t.length last ps = true → 0 ≤ f → f ≤ t.length → f ≤ last + 1 → ((patG emb t f ps).length : Int) = t.length - f - delP ps + insP ps
  | [], f, last, h, h0, h1, h2 => by simp only [patG, List.length_drop, delP, insP]; omega
  | c :: r, f, last, h, h0, h1, h2 => by
    unfold validP at h
    rw [Bool.and_eq_true] at h
    obtain ⟨t1, t2, t3, t4, t5⟩ := fitP_true h.1
    have ih := patG_len emb t r (c.at_ + c.n) (c.at_ + c.n) h.2 (by omega) t3 (by omega)
    simp only [patG, List.length_append, List.length_take, List.length_drop, List.length_map, delP, insP]
    omega

theorem delP_nn {length : Int} : ∀ {ps : List PC} {last : Int}, validP length last ps = true → 0 ≤ delP ps
  | [], _, _ => by simp [delP]
  | c :: r, last, h => by
    unfold validP at h
    rw [Bool.and_eq_true] at h
    obtain ⟨t1, t2, t3, t4, t5⟩ := fitP_true h.1
    have := delP_nn h.2
    simp only [delP]; omega
theorem delP_le {length : Int} : ∀ {ps : List PC} {last : Int}, validP length last ps = true → -1 ≤ last → last ≤ length → 0 ≤ length → delP ps ≤ length - max last 0
  | [], last, _, h0, h1, h2 => by simp only [delP]; omega
  | c :: r, last, h, h0, h1, h2 => by
    unfold validP at h
    rw [Bool.and_eq_true] at h
    obtain ⟨t1, t2, t3, t4, t5⟩ := fitP_true h.1
    have := delP_le h.2 (by omega) t3 h2
    simp only [delP]; omega

/-- Every second one is replaced. -/
def repl {α : Type} : List α → List α → List α
  | x :: y :: r, c :: cs => x :: c :: repl r cs
  | l, _ => l

theorem repl_nil {α : Type} (l : List α) : repl l [] = l := by
  match l with
  | [] => rfl
  | [_] => rfl
  | _ :: _ :: _ => rfl
theorem repl_len {α : Type} : ∀ (l us : List α), (repl l us).length = l.length
  | [], [] => rfl
  | [_], [] => rfl
  | _ :: _ :: _, [] => rfl
  | [], _ :: _ => rfl
  | [_], _ :: _ => rfl
  | x :: y :: r, c :: cs => by simp [repl, repl_len r cs]
theorem repl_set {α : Type} : ∀ (k : Nat) (l us : List α) (hk : k < us.length), 2 * us.length < l.length → repl l (us.take (k + 1)) = (repl l (us.take k)).set (2 * k + 1) us[k]
  | 0, x :: y :: r, u :: us, _, _ => by simp [repl, repl_nil]
  | k + 1, x :: y :: r, u :: us, hk, hl => by
    have := repl_set k r us (by simpa using hk) (by simp only [List.length_cons] at hl; omega)
    simp only [List.take_succ_cons, repl, List.getElem_cons_succ] at this ⊢
    rw [this, show 2 * (k + 1) + 1 = (2 * k + 1) + 1 + 1 by omega, List.set_cons_succ, List.set_cons_succ]
  | _, [], u :: us, _, hl => by simp at hl
  | _, [_], u :: us, _, hl => by simp only [List.length_cons, List.length_nil] at hl; omega
theorem repl_all {L : List Ent} : ∀ {ids : List Int} {ts : List (List Int)} {us : List Int} {vs : List (List Int)}, AllB L ids ts → AllB L us vs → AllB L (repl ids us) (repl ts vs)
  | [], [], us, vs, _, _ => by
    match us, vs with
    | [], [] => exact trivial
    | [], _ :: _ => exact trivial
    | _ :: _, [] => exact trivial
    | _ :: _, _ :: _ => exact trivial
  | [x], [y], us, vs, h, _ => by
    match us, vs with
    | [], [] => exact h
    | [], _ :: _ => exact h
    | _ :: _, [] => exact h
    | _ :: _, _ :: _ => exact h
  | x :: y :: r, a :: b :: s, [], [], h, _ => h
  | x :: y :: r, a :: b :: s, u :: us, v :: vs, h, h' => ⟨h.1, h'.1, repl_all h.2.2 h'.2⟩

/-- The parts of a text between offsets. -/
def cutsF (t : List Int) : Int → List Int → List (List Int)
  | f, [] => [t.drop f.toNat]
  | f, c :: r => cutL t f (c - f) :: cutsF t c r

theorem pieces_gen (t : List Int) : ∀ (cs : List Int) (f : Int), 0 ≤ f → (∀ x ∈ cs, 0 ≤ x) →
    ((List.range (cs.length + 1)).map fun k => cutL t ((f :: (cs ++ [(t.length : Int)])).getD k 0) ((f :: (cs ++ [(t.length : Int)])).getD (k + 1) 0 - (f :: (cs ++ [(t.length : Int)])).getD k 0)) = cutsF t f cs
  | [], f, h0, _ => by
    show [cutL t f ((t.length : Int) - f)] = [t.drop f.toNat]
    unfold cutL
    rw [List.take_of_length_le]
    rw [List.length_drop]; omega
  | c :: r, f, h0, h => by
    have ih := pieces_gen t r c (h c (by simp)) (fun x hx => h x (by simp [hx]))
    rw [List.length_cons, List.range_succ_eq_map, List.map_cons, List.map_map]
    show _ :: _ = cutL t f (c - f) :: cutsF t c r
    congr 1

theorem pieces_eq (t cs : List Int) (h : ∀ x ∈ cs, 0 ≤ x) : pieces t cs = cutsF t 0 cs := pieces_gen t cs 0 (by omega) h

/-- The cuts do not decrease. -/
def IncrF (T : Int) : Int → List Int → Prop
  | f, [] => f ≤ T
  | f, c :: r => f ≤ c ∧ IncrF T c r

theorem IncrF.idx {T : Int} : ∀ (cs : List Int) (f : Int), IncrF T f cs → ∀ k, k ≤ cs.length → (f :: (cs ++ [T])).getD k 0 ≤ (f :: (cs ++ [T])).getD (k + 1) 0
  | [], f, h, 0, _ => h
  | c :: r, f, h, 0, _ => h.1
  | c :: r, f, h, k + 1, hk => IncrF.idx r c h.2 k (by simpa using hk)

theorem valid_incr {T : Int} : ∀ (ps : List PC) (f last : Int), validP T last ps = true → f ≤ last + 1 → f ≤ T → IncrF T f (ats ps)
  | [], f, last, _, _, h => h
  | c :: r, f, last, h, h1, h2 => by
    unfold validP at h
    rw [Bool.and_eq_true] at h
    obtain ⟨t1, t2, t3, t4, t5⟩ := fitP_true h.1
    exact ⟨by omega, by omega, valid_incr r _ _ h.2 (by omega) t3⟩
theorem valid_ats {T : Int} : ∀ (ps : List PC) (last : Int), validP T last ps = true → ∀ x ∈ ats ps, 0 ≤ x
  | [], last, _, x, hx => by simp [ats] at hx
  | c :: r, last, h, x, hx => by
    unfold validP at h
    rw [Bool.and_eq_true] at h
    obtain ⟨t1, t2, t3, t4, t5⟩ := fitP_true h.1
    rw [ats_cons] at hx
    simp only [List.mem_cons] at hx
    rcases hx with rfl | rfl | hx
    · exact t1
    · omega
    · exact valid_ats r _ h.2 x hx

theorem repl_flat (t : List Int) : ∀ (ps : List PC) (f : Int), (repl (cutsF t f (ats ps)) (ps.map PC.text)).flatten = patG id t f ps
  | [], f => by simp [ats, cutsF, repl, patG]
  | c :: r, f => by
    have ih := repl_flat t r (c.at_ + c.n)
    simp only [ats_cons, cutsF, List.map_cons, repl, List.flatten_cons, ih, patG, List.map_id, cutL]

/-- What Apply puts together. -/
theorem apply_flat {t : List Int} {ps : List PC} (h : validP t.length (-1) ps = true) : (repl (pieces t (ats ps)) (ps.map PC.text)).flatten = patR t ps := by
  rw [pieces_eq t _ (valid_ats ps _ h)]
  exact repl_flat t ps 0

theorem apply_incr {t : List Int} {ps : List PC} (h : validP t.length (-1) ps = true) : Incr (ats ps) t.length := fun k hk => IncrF.idx (ats ps) 0 (valid_incr ps 0 (-1) h (by omega) (by omega)) k hk

theorem patR_len {t : List Int} {ps : List PC} (h : validP t.length (-1) ps = true) : ((patR t ps).length : Int) = t.length - delP ps + insP ps := by
  have := patG_len id t ps 0 (-1) h (by omega) (by omega) (by omega)
  unfold patR
  omega

end Go.Proofs.YtclpndigmidjkaaGreat

/- Changes in memory, and the walk of patch.balanced. -/
import Derived.Test.YtbokcmkbnkncoaaSet
set_option linter.unusedSimpArgs false
set_option linter.unusedVariables false
namespace Go.Proofs.Ytbokcmkbnkncoaa
open Go.RowKit

structure Chg where
  at_ : Int
  n : Int
  text : Int

/-- The changes lie at an address (if there are any). -/
def ChgsAt (w : World) (a : Option Addr) (cs : List Chg) : Prop :=
  ∀ i (h : i < cs.length), ∃ b off, a = some ⟨b, off, none⟩ ∧ b < w.heap.size ∧ w.cell? ⟨b, off + i * 3, none⟩ = some (.int .i64 cs[i].at_) ∧ w.cell? ⟨b, off + i * 3 + 1, none⟩ = some (.int .i64 cs[i].n) ∧ w.cell? ⟨b, off + i * 3 + 2, none⟩ = some (.int .i64 cs[i].text)

theorem ChgsAt.kept0 {w w' : World} {a : Option Addr} {cs : List Chg} (h : ChgsAt w a cs) (hf : Fr0 w w') : ChgsAt w' a cs := by
  intro i hi
  obtain ⟨b, off, h1, h2, h3, h4, h5⟩ := h i hi
  exact ⟨b, off, h1, by have := hf.size'; omega, (hf.cell b _ h2).trans h3, (hf.cell b _ h2).trans h4, (hf.cell b _ h2).trans h5⟩

set_option maxRecDepth 100000 in
set_option maxHeartbeats 1000000 in
theorem pat_balanced_ok {w : World} {p mb : Nat} {most : Int} {sv : Value} {L : List Ent} (hS : St w p mb most sv L) (a : Option Addr) (cap : Nat) (cs : List Chg) (hc : ChgsAt w a cs) (hl : cs.length ≤ 1000000) (hk : ∀ c ∈ cs, isKnown L c.text ∧ (entAt L c.text).even = true) :
    Calls Try.prog 51 #[.pointer (some ⟨p, 0, none⟩), .slice a cs.length cap] w fun e w' => e = .returned .nilIface ∧ Fr0 w w' := by
  have hmm := @run_makeMap Try.prog
  have HC := Lib.hid hc
  have HS := Lib.hid hS
  have HK := Lib.hid hk
  clear hc hS hk
  go_enter Try.func51, Try.ntmps51
  go_wp2_with fail
  clear hmm
  obtain ⟨M, hM⟩ : ∃ M, M = w.heap.size := ⟨_, rfl⟩
  rw [← hM]
  have HM := Lib.hid hM
  clear hM
  go_loopw [13] (fun i wr => ∃ (k : Nat) (xs : List Int), k ≤ cs.length ∧ i = .int .i64 k ∧ Fr0 w wr ∧ wr.heap[M]? = some (.map (idEntries 0 xs).toArray xs.length)) (fun i _ => cs.length - (intOf i).toNat)
  case atStart => exact ⟨0, [], Nat.zero_le _, rfl, (Fr0.refl w).alloc _, alloc_at _ _ _ HM.out⟩
  case round =>
    obtain ⟨k, xs, hk, rfl, hfr, hm⟩ := hrel
    by_cases hlt : k < cs.length
    · obtain ⟨b, off, hab, lb, d0, d1, d2⟩ := (HC.out.kept0 hfr) k hlt
      obtain ⟨k1, k2⟩ := HK.out cs[k] (List.getElem_mem _)
      subst hab
      generalize cs[k] = c at *
      have hlk := fun (o : Obj) => run_lookup_id c.text (wr.alloc o) ((alloc_lt _ _ _ (lt_of_block hm)).trans hm)
      have lM := lt_of_block hm
      have HMM := Lib.hid hm
      clear hm
      by_cases hx : c.text ∈ xs
      · simp only [hx, decide_true] at hlk
        go_wp2_with fail
        go_roundw
        case rel => exact ⟨k + 1, xs, by omega, by go_num, hfr.alloc _, (alloc_lt _ _ _ lM).trans HMM.out⟩
        case measure => simp [intOf]; omega
      · simp only [hx, decide_false] at hlk
        go_wp2_with fail
        refine (avl_Balanced (HS.out.kept0 (hfr.alloc _)) c.text k1).mono ?_
        rintro e w2 ⟨rfl, hf2⟩
        rw [k2]
        have hm2 := hf2.kept ((alloc_lt _ _ _ lM).trans HMM.out)
        have hup := run_update_id c.text w2 hm2 hx
        have d2' : w2.cell? ⟨wr.heap.size, 2, none⟩ = some (.int .i64 c.text) := (hf2.cell _ _ (by simp)).trans (by rw [cell_of_block (alloc_at _ _ _ rfl)]; rfl)
        have lM2 := lt_of_block hm2
        generalize hW3 : setB w2 M (.map (idEntries 0 (xs ++ [c.text])).toArray (xs ++ [c.text]).length) = W3 at *
        have HW3 := Lib.hid hW3
        clear hW3 hm2 hlk
        have hf02 : Fr0 w w2 := (hfr.alloc _).trans hf2
        go_wp2_with fail
        go_roundw
        case rel =>
          refine ⟨k + 1, xs ++ [c.text], by omega, by go_num, ?_, ?_⟩
          · rw [← HW3.out]; exact Fr.setB hf02 M _ (fun h => by have := HM.out; omega)
          · rw [← HW3.out]; exact setB_same lM2
        case measure => simp [intOf]; omega
    · go_wp2_with fail
      go_ret
      exact ⟨rfl, hfr⟩

set_option maxRecDepth 100000 in
set_option maxHeartbeats 1000000 in
theorem pat_balanced_form {w : World} {p mb : Nat} {most : Int} {sv : Value} {L : List Ent} (hS : St w p mb most sv L) (a : Option Addr) (cap : Nat) (cs : List Chg) (hc : ChgsAt w a cs) (hl : cs.length ≤ 1000000) (hk : ∀ c ∈ cs, isKnown L c.text) (hbad : ∃ c ∈ cs, (entAt L c.text).even = false) :
    Calls Try.prog 51 #[.pointer (some ⟨p, 0, none⟩), .slice a cs.length cap] w fun e w' => e = .returned (.iface 66 (.int .i64 4)) ∧ Fr0 w w' := by
  have hmm := @run_makeMap Try.prog
  have HC := Lib.hid hc
  have HS := Lib.hid hS
  have HK := Lib.hid hk
  have HBAD := Lib.hid hbad
  clear hc hS hk hbad
  go_enter Try.func51, Try.ntmps51
  go_wp2_with fail
  clear hmm
  obtain ⟨M, hM⟩ : ∃ M, M = w.heap.size := ⟨_, rfl⟩
  rw [← hM]
  have HM := Lib.hid hM
  clear hM
  go_loopw [13] (fun i wr => ∃ (k : Nat) (xs : List Int), k ≤ cs.length ∧ i = .int .i64 k ∧ Fr0 w wr ∧ wr.heap[M]? = some (.map (idEntries 0 xs).toArray xs.length) ∧ (∀ x ∈ xs, (entAt L x).even = true) ∧ (∀ c ∈ cs.take k, (entAt L c.text).even = true)) (fun i _ => cs.length - (intOf i).toNat)
  case atStart => exact ⟨0, [], Nat.zero_le _, rfl, (Fr0.refl w).alloc _, alloc_at _ _ _ HM.out, fun x hx => by simp at hx, fun c hc => by simp at hc⟩
  case round =>
    obtain ⟨k, xs, hk, rfl, hfr, hm, hxs, hcs⟩ := hrel
    have HXS := Lib.hid hxs
    have HCS := Lib.hid hcs
    clear hxs hcs
    by_cases hlt : k < cs.length
    · obtain ⟨b, off, hab, lb, d0, d1, d2⟩ := (HC.out.kept0 hfr) k hlt
      have k1 := HK.out cs[k] (List.getElem_mem _)
      have HT := Lib.hid (List.take_succ_eq_append_getElem hlt)
      subst hab
      generalize cs[k] = c at *
      have hlk := fun (o : Obj) => run_lookup_id c.text (wr.alloc o) ((alloc_lt _ _ _ (lt_of_block hm)).trans hm)
      have lM := lt_of_block hm
      have HMM := Lib.hid hm
      clear hm
      by_cases hx : c.text ∈ xs
      · simp only [hx, decide_true] at hlk
        go_wp2_with fail
        go_roundw
        case rel => exact ⟨k + 1, xs, by omega, by go_num, hfr.alloc _, (alloc_lt _ _ _ lM).trans HMM.out, HXS.out, fun c' hc' => by rw [HT.out] at hc'; rcases List.mem_append.1 hc' with h | h; exact HCS.out c' h; simp at h; subst h; exact HXS.out _ hx⟩
        case measure => simp [intOf]; omega
      · simp only [hx, decide_false] at hlk
        go_wp2_with fail
        refine (avl_Balanced (HS.out.kept0 (hfr.alloc _)) c.text k1).mono ?_
        rintro e w2 ⟨rfl, hf2⟩
        cases hev : (entAt L c.text).even with
        | false =>
          clear hlk
          go_wp2_with fail
          go_ret
          exact ⟨rfl, (hfr.alloc _).trans hf2⟩
        | true =>
          have HEV := Lib.hid hev
          clear hev
          have hm2 := hf2.kept ((alloc_lt _ _ _ lM).trans HMM.out)
          have hup := run_update_id c.text w2 hm2 hx
          have d2' : w2.cell? ⟨wr.heap.size, 2, none⟩ = some (.int .i64 c.text) := (hf2.cell _ _ (by simp)).trans (by rw [cell_of_block (alloc_at _ _ _ rfl)]; rfl)
          have lM2 := lt_of_block hm2
          generalize hW3 : setB w2 M (.map (idEntries 0 (xs ++ [c.text])).toArray (xs ++ [c.text]).length) = W3 at *
          have HW3 := Lib.hid hW3
          clear hW3 hm2 hlk
          have hf02 : Fr0 w w2 := (hfr.alloc _).trans hf2
          go_wp2_with fail
          go_roundw
          case rel =>
            refine ⟨k + 1, xs ++ [c.text], by omega, by go_num, ?_, ?_, fun x hx' => by rcases List.mem_append.1 hx' with h | h; exact HXS.out x h; simp at h; subst h; exact HEV.out, fun c' hc' => by rw [HT.out] at hc'; rcases List.mem_append.1 hc' with h | h; exact HCS.out c' h; simp at h; subst h; exact HEV.out⟩
            · rw [← HW3.out]; exact Fr.setB hf02 M _ (fun h => by have := HM.out; omega)
            · rw [← HW3.out]; exact setB_same lM2
          case measure => simp [intOf]; omega
    · exfalso
      obtain ⟨c, hc1, hc2⟩ := HBAD.out
      have := HCS.out c (by rw [List.take_of_length_le (by omega)]; exact hc1)
      rw [this] at hc2
      cases hc2

end Go.Proofs.Ytbokcmkbnkncoaa

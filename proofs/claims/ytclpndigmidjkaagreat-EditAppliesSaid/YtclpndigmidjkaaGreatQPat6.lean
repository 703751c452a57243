/- patch.Check and patch.Length in all cases. -/
import Derived.Test.YtclpndigmidjkaaGreatQPat5
set_option linter.unusedSimpArgs false
set_option linter.unusedVariables false
namespace Go.Proofs.YtclpndigmidjkaaGreat
open Go.RowKit

def lenOk (n : Int) : Bool := decide (0 ≤ n ∧ n ≤ 1152921504606846976)
def knownB (L : List Ent) (id : Int) : Bool := decide (0 ≤ id ∧ id ≤ (L.length : Int))
def allKnown (L : List Ent) (cs : List Chg) : Bool := cs.all fun c => knownB L c.text
def allEven (L : List Ent) (cs : List Chg) : Bool := cs.all fun c => (entAt L c.text).even

theorem knownB_iff (L : List Ent) (id : Int) : knownB L id = true ↔ isKnown L id := by unfold knownB isKnown; exact decide_eq_true_iff
theorem allKnown_iff (L : List Ent) (cs : List Chg) : allKnown L cs = true ↔ ∀ c ∈ cs, isKnown L c.text := by
  unfold allKnown
  rw [List.all_eq_true]
  exact ⟨fun h c hc => (knownB_iff _ _).1 (h c hc), fun h c hc => (knownB_iff _ _).2 (h c hc)⟩
theorem allEven_iff (L : List Ent) (cs : List Chg) : allEven L cs = true ↔ ∀ c ∈ cs, (entAt L c.text).even = true := by
  unfold allEven
  rw [List.all_eq_true]

/-- The number of the error of a list of changes. -/
def Want (L : List Ent) (length : Int) (cs : List Chg) (n : Int) : Prop :=
  (n = 1 ∧ (lenOk length && allKnown L cs) = false) ∨ (n = 4 ∧ (lenOk length && allKnown L cs) = true ∧ (formedFrom length (-1) cs && allEven L cs) = false) ∨
  (n = 0 ∧ (lenOk length && allKnown L cs) = true ∧ (formedFrom length (-1) cs && allEven L cs) = true)

set_option maxRecDepth 100000 in
set_option maxHeartbeats 1000000 in
theorem pat_Check_range {w : World} {p : Nat} (length : Int) (h : lenOk length = false) (pv : Value) :
    Calls Tryz.prog 17 #[.pointer (some ⟨p, 0, none⟩), .int .i64 length, pv] w fun e w' => e = .returned (.iface 52 (.int .i64 1)) ∧ Fr0 w w' := by
  have CV := Lib.hid (len_Valid_no length w (by unfold lenOk at h; have := of_decide_eq_false h; omega))
  clear h
  go_enter Tryz.func17, Tryz.ntmps17
  go_wp2_with fail
  refine CV.out.mono ?_
  rintro e w' ⟨rfl, rfl⟩
  go_wp2_with fail
  go_ret
  exact ⟨rfl, Fr0.refl w⟩

theorem lenOk_iff (n : Int) : lenOk n = true ↔ 0 ≤ n ∧ n ≤ 1152921504606846976 := by unfold lenOk; exact decide_eq_true_iff

theorem pat_Check_bad {w : World} {p mb : Nat} {most : Int} {sv : Value} {L : List Ent} (hS : St w p mb most sv L) (length : Int) (a : Option Addr) (cap : Nat) (cs : List Chg) (hc : ChgsAt w a cs) (hl : cs.length ≤ 1000000) {n : Int} (hn : Want L length cs n) (h0 : n ≠ 0) :
    Calls Tryz.prog 17 #[.pointer (some ⟨p, 0, none⟩), .int .i64 length, .slice a cs.length cap] w fun e w' => e = .returned (.iface 52 (.int .i64 n)) ∧ Fr0 w w' := by
  rcases hn with ⟨rfl, h⟩ | ⟨rfl, h1, h2⟩ | ⟨rfl, _⟩
  · cases hlo : lenOk length with
    | false => exact pat_Check_range length hlo _
    | true =>
      rw [hlo, Bool.true_and] at h
      obtain ⟨g0, g1⟩ := (lenOk_iff _).1 hlo
      refine pat_Check_unknown hS length g0 g1 a cap cs hc hl ?_
      refine Classical.byContradiction fun hx => ?_
      have : allKnown L cs = true := (allKnown_iff _ _).2 fun c hc => Classical.byContradiction fun hk => hx ⟨c, hc, hk⟩
      rw [this] at h; cases h
  · rw [Bool.and_eq_true] at h1
    obtain ⟨g0, g1⟩ := (lenOk_iff _).1 h1.1
    have hk := (allKnown_iff _ _).1 h1.2
    cases hf : formedFrom length (-1) cs with
    | false => exact pat_Check_form hS length g0 g1 a cap cs hc hl hk hf
    | true =>
      rw [hf, Bool.true_and] at h2
      refine pat_Check_formed hS length g0 g1 a cap cs hc hl hk hf _ (fun W hW => pat_balanced_form (hS.kept0 hW) a cap cs (hc.kept0 hW) hl hk ?_)
      refine Classical.byContradiction fun hx => ?_
      have : allEven L cs = true := (allEven_iff _ _).2 fun c hc => by
        cases he : (entAt L c.text).even with
        | true => rfl
        | false => exact absurd ⟨c, hc, he⟩ hx
      rw [this] at h2; cases h2
  · exact absurd rfl h0

theorem want_zero {L : List Ent} {length : Int} {cs : List Chg} (hn : Want L length cs 0) : (0 ≤ length ∧ length ≤ 1152921504606846976) ∧ (∀ c ∈ cs, isKnown L c.text ∧ (entAt L c.text).even = true) ∧ formedFrom length (-1) cs = true := by
  rcases hn with ⟨h, _⟩ | ⟨h, _⟩ | ⟨_, h1, h2⟩
  · cases h
  · cases h
  · rw [Bool.and_eq_true] at h1 h2
    have hk := (allKnown_iff _ _).1 h1.2
    have he := (allEven_iff _ _).1 h2.2
    exact ⟨(lenOk_iff _).1 h1.1, fun c hc => ⟨hk c hc, he c hc⟩, h2.1⟩

theorem pat_Check_good {w : World} {p mb : Nat} {most : Int} {sv : Value} {L : List Ent} (hS : St w p mb most sv L) (length : Int) (a : Option Addr) (cap : Nat) (cs : List Chg) (hc : ChgsAt w a cs) (hl : cs.length ≤ 1000000) (hn : Want L length cs 0) :
    Calls Tryz.prog 17 #[.pointer (some ⟨p, 0, none⟩), .int .i64 length, .slice a cs.length cap] w fun e w' => e = .returned .nilIface ∧ Fr0 w w' := by
  obtain ⟨⟨g0, g1⟩, hk, hf⟩ := want_zero hn
  exact pat_Check_formed hS length g0 g1 a cap cs hc hl (fun c hc => (hk c hc).1) hf .nilIface (fun W hW => pat_balanced_ok (hS.kept0 hW) a cap cs (hc.kept0 hW) hl hk)

theorem pat_Length_bad {w : World} {p mb : Nat} {most : Int} {sv : Value} {L : List Ent} (hS : St w p mb most sv L) (length : Int) (a : Option Addr) (cap : Nat) (cs : List Chg) (hc : ChgsAt w a cs) (hl : cs.length ≤ 1000000) {n : Int} (hn : Want L length cs n) (h0 : n ≠ 0) :
    Calls Tryz.prog 18 #[.pointer (some ⟨p, 0, none⟩), .int .i64 length, .slice a cs.length cap] w fun e w' => e = .returned (.tuple #[.int .i64 0, .iface 52 (.int .i64 n)]) ∧ Fr0 w w' :=
  pat_Length_err length _ n (pat_Check_bad hS length a cap cs hc hl hn h0)

theorem pat_Length_good {w : World} {p mb : Nat} {most : Int} {sv : Value} {L : List Ent} (hS : St w p mb most sv L) (hO : SOk L) (length : Int) (a : Option Addr) (cap : Nat) (cs : List Chg) (hc : ChgsAt w a cs) (hl : cs.length ≤ 1000000) (hn : Want L length cs 0) (ht : length - sumN cs + sumT (lnL L) cs ≤ 1152921504606846976) :
    Calls Tryz.prog 18 #[.pointer (some ⟨p, 0, none⟩), .int .i64 length, .slice a cs.length cap] w fun e w' => e = .returned (.tuple #[.int .i64 (length - sumN cs + sumT (lnL L) cs), .nilIface]) ∧ Fr0 w w' := by
  obtain ⟨⟨g0, g1⟩, hk, hf⟩ := want_zero hn
  exact pat_Length_ok hS hO length g0 g1 a cap cs hc hl hk hf ht

theorem pat_Length_over {w : World} {p mb : Nat} {most : Int} {sv : Value} {L : List Ent} (hS : St w p mb most sv L) (hO : SOk L) (length : Int) (a : Option Addr) (cap : Nat) (cs : List Chg) (hc : ChgsAt w a cs) (hl : cs.length ≤ 1000000) (hn : Want L length cs 0) (ht : 1152921504606846976 < length - sumN cs + sumT (lnL L) cs) :
    Calls Tryz.prog 18 #[.pointer (some ⟨p, 0, none⟩), .int .i64 length, .slice a cs.length cap] w fun e w' => e = .returned (.tuple #[.int .i64 0, .iface 52 (.int .i64 2)]) ∧ Fr0 w w' := by
  obtain ⟨⟨g0, g1⟩, hk, hf⟩ := want_zero hn
  exact pat_Length_long hS hO length g0 g1 a cap cs hc hl hk hf ht

end Go.Proofs.YtclpndigmidjkaaGreat

/- The walks of patch.section and patch.Invert's helpers. -/
import Derived.Test.YtclpndigmidjkaaGreatQPaB
set_option linter.unusedSimpArgs false
set_option linter.unusedVariables false
namespace Go.Proofs.YtclpndigmidjkaaGreat
open Go.RowKit

theorem sto_size {B : Nat} {w : World} {p mb : Nat} {most : Int} {L : List Ent} (hS : Sto B w p mb most L) (hD : DOk L) (hO : SOk L) {id : Int} {t : List Int} {d : Int} (hb : BalZ L id t d) :
    Calls Tryz.prog 64 #[.pointer (some ⟨p, 0, none⟩), .int .i64 id] w fun e w' => e = .returned (.tuple #[.int .i64 t.length, .nilIface]) ∧ Fr0 w w' := by
  obtain ⟨sv, hS', _⟩ := hS
  have := patch_sizeL hS' id hb.known
  unfold lnL at this
  rw [← hb.len hD hO] at this
  exact this

set_option maxRecDepth 100000 in
set_option maxHeartbeats 1000000 in
theorem pat_section {B : Nat} {w : World} {p mb : Nat} {most : Int} {L : List Ent} {id : Int} {t : List Int} {d f n : Int} (hR : Room B w p mb most L (11 * d.toNat + 1)) (hb : BalZ L id t d) (h0 : 0 ≤ f) (h1 : 0 ≤ n) (h2 : f + n ≤ t.length) :
    Calls Tryz.prog 101 #[.pointer (some ⟨p, 0, none⟩), .int .i64 id, .int .i64 f, .int .i64 n] w (ZPost B w p mb most L (cutL t f n) (fun d' k => k ≤ 11 * d.toNat + 1)) := by
  have CS := Lib.hid (sto_size hR.st hR.dok hR.sok hb)
  have CX := Lib.hid (fun W (hW : Fr0 w W) => spl_Section (hR.kept0 hW) hb h0 h1 h2)
  have HR := Lib.hid hR
  have HB := Lib.hid hb
  clear hR hb
  by_cases hn : n = 0
  · subst hn
    go_enter Tryz.func101, Tryz.ntmps101
    go_wp2_with fail
    refine CS.out.mono ?_
    rintro e w1 ⟨rfl, f1⟩
    go_wp2_with fail
    go_ret2
    exact ZPost.same HR.out f1 (by rw [cut_zero]; exact BalZ.zero L) (by omega)
  · have q1 : (n == 0) = false := by simpa using hn
    by_cases hw : n = t.length
    · have q2 : (n == (t.length : Int)) = true := by simpa using hw
      have HC : Hid (cutL t f n = t) := cut_all (by omega) hw
      clear hn hw
      go_enter Tryz.func101, Tryz.ntmps101
      go_wp2_with fail
      refine CS.out.mono ?_
      rintro e w1 ⟨rfl, f1⟩
      go_wp2_with fail
      go_ret2
      exact ZPost.same HR.out f1 (by rw [HC.out]; exact HB.out) (by omega)
    · have q2 : (n == (t.length : Int)) = false := by simpa using hw
      clear hn hw
      go_enter Tryz.func101, Tryz.ntmps101
      go_wp2_with fail
      refine CS.out.mono ?_
      rintro e w1 ⟨rfl, f1⟩
      go_wp2_with fail
      refine (CX.out _ f1).mono ?_
      rintro e w2 hx
      obtain ⟨z, rfl⟩ := hx.ret
      have HX := Lib.hid (ZPost.before f1 (hx.mono (E := fun d' k => k ≤ 11 * d.toNat + 1) rfl (fun e k h => by have := h.2.2; omega)))
      clear hx CX CS
      go_wp2_with fail
      go_ret2
      exact HX.out

end Go.Proofs.YtclpndigmidjkaaGreat

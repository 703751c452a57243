/- The walk of split.Split. -/
import Derived.Test.YtclpndigmidjkaaGreatQd
set_option linter.unusedSimpArgs false
set_option linter.unusedVariables false
namespace Go.Proofs.YtclpndigmidjkaaGreat
open Go.RowKit

set_option maxRecDepth 100000 in
set_option maxHeartbeats 1000000 in
theorem spl_Split {B : Nat} {w : World} {p mb : Nat} {most : Int} {L : List Ent} {id : Int} {t : List Int} {d m : Int} (hR : Room B w p mb most L (8 * d.toNat)) (hb : BalZ L id t d) (h0 : 0 ≤ m) (h1 : m ≤ t.length) :
    Calls Tryz.prog 107 #[.pointer (some ⟨p, 0, none⟩), .int .i64 id, .int .i64 m] w (SPost B w p mb most L t d m) := by
  have hlen := hb.len hR.dok hR.sok
  have hd0 := (hR.sok.at id hb.known).2.1
  rw [hb.depth] at hd0
  have C1 := Lib.hid (split_check hR.st id hb.known hb.even t.length hlen.symm)
  have C2 := Lib.hid (fun W (hW : Fr0 w W) => spl_frontZ ((hR.kept0 hW).less (by omega)) hb h0 h1)
  have HR := Lib.hid hR
  have HB := Lib.hid hb
  clear hR hb hlen
  generalize hTT : (t.length : Int) = T at *
  have HTT := Lib.hid hTT
  clear hTT
  have e1 : decide (m < 0) = false := decide_eq_false (by omega)
  have e2 : decide (T < m) = false := decide_eq_false (by omega)
  go_enter Tryz.func107, Tryz.ntmps107
  go_wp2_with fail
  refine C1.out.mono ?_
  rintro e w1 ⟨rfl, f1⟩
  go_wp2_with fail
  refine (C2.out _ f1).mono ?_
  rintro e w2 ⟨L1, x, dx, kx, rfl, hS1, hK1, g, bx, hx0, hx1, hx2⟩
  have hRm := (HR.out.kept0 f1).next (k := 4 * d.toNat) hS1 hK1 g (by omega)
  have C3 := Lib.hid (spl_restZ hRm (g.balz HR.out.dok HB.out) h0 (by have := HTT.out; omega))
  have HK := Lib.hid ((Kp.of0 f1).trans hK1)
  have HG := Lib.hid g
  have HBX := Lib.hid bx
  have HD := Lib.hid hRm.dok
  clear hS1 hK1 g bx hRm C2
  go_wp2_with fail
  refine C3.out.mono ?_
  rintro e w3 ⟨L2, y, dy, ky, rfl, hS2, hK2, g2, by2, hy0, hy1, hy2⟩
  have HX : Hid (SPost B w p mb most L t d m (.returned (.tuple #[.int .i64 x, .int .i64 y, .nilIface])) w3) :=
    ⟨L2, x, y, dx, dy, _, rfl, hS2, HK.out.trans hK2, HG.out.trans g2 (Nat.le_refl _), g2.balz HD.out HBX.out, by2, hx1, hy1, by omega⟩
  clear hS2 hK2 g2 by2 C3
  go_wp2_with fail
  go_ret3
  exact HX.out

end Go.Proofs.YtclpndigmidjkaaGreat

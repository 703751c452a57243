/- The walk of access.Extract. -/
import Derived.Test.YtgldjpldldknoaaGreatDoorRAc4
set_option linter.unusedSimpArgs false
set_option linter.unusedVariables false
namespace Go.Proofs.YtgldjpldldknoaaGreatDoor
open Go.RowKit
theorem made_bytes (n : Nat) (hn : n ≤ 1000000) (w : World) :
    (Instr.makeSlice 41 (.int .i64 0) (.int .i64 (n : Int))).run Tryz.prog w = .ok (.slice (some ⟨w.heap.size, 0, none⟩) 0 n) (w.alloc (.cells (madeCells #[.int .u8 0] n) 5)) := by
 obtain ⟨_, _, _, hu, _⟩ := rt_byte3
 obtain ⟨i, hi, hzz⟩ := Option.map_eq_some_iff.1 info_byte3
 simp only [Prod.mk.injEq] at hzz
 obtain ⟨hz, hs, hb⟩ := hzz
 have hr := run_make (P := Tryz.prog) w 41 5 i _ hu hi hz .i64 .i64 0 (n : Int) (by omega) (by omega) (by rw [hb]; omega) (by omega)
 rw [hs, show (Value.int .u8 0).cells = #[.int .u8 0] from rfl] at hr
 simpa using hr
set_option maxRecDepth 100000 in
set_option maxHeartbeats 4000000 in
theorem ac_Extract {B mb : Nat} {w : World} {p : Nat} {most : Int} {L : List Ent} (hS : Sto B w p mb most L) (hSO : SOk L) (hD : DOk L) (hU : Uq L) (hBw : B ≤ w.heap.size) (id : Int) (hk : isKnown L id) (f n : Nat) (hfit : f + n ≤ (txt L id).length) (hl : (txt L id).length ≤ 1000) (hm : 4 * n * id.toNat ≤ 4000000000) :
    Calls Tryz.prog 65 #[.pointer (some ⟨p, 0, none⟩), .int .i64 id, .int .i64 f, .int .i64 n] w fun e w' => ∃ v, e = .returned (.tuple #[v, .nilIface]) ∧ w'.ownsRow w.heap.size 5 1 v (rngT (txt L id) f n).length ((rngT (txt L id) f n).flatMap byz) ∧ Fr0 w w' := by
 have HS := Lib.hid hS
 have CW := Lib.hid (fun W (hW : Fr0 w W) => sto_Weight (hS.keptO (Ko.of0 hW)) id hk)
 have hlw := txt_len hD hSO _ id (Nat.le_refl _) hk
 rw [← hlw] at CW
 generalize (entAt L id).wt = wt at *
 have CR := Lib.hid (fun W => len_Range_ok (f : Int) (n : Int) ((txt L id).length : Int) W (by omega) (by omega) (by omega) (by omega))
 have q1 : decide ((65536 : Int) < (n : Int)) = false := decide_eq_false (by omega)
 have q2 := made_bytes n (by omega)
 have F1 : Fr0 w (w.alloc (.cells #[.pointer (some ⟨p, 0, none⟩)] 25 (0, 0))) := (Fr0.refl w).alloc _
 have b1 := alloc_at w (.cells #[.pointer (some ⟨p, 0, none⟩)] 25 (0, 0)) w.heap.size rfl
 have CW1 := Lib.hid (CW.out _ F1)
 have CPA := Lib.hid (fun W bt v (hW : Fr0 w W) (hT : Tx w.heap.size W bt v []) (hsb : W.heap[w.heap.size]? = some (Obj.cells #[.pointer (some ⟨p, 0, none⟩)] 25 (0, 0))) (hbt : B ≤ bt) => ac_parts (out := []) (hS.keptO (Ko.of0 hW)) hSO hD hU hT hsb hBw hbt (Fr.size hW) id hk f n hfit hl (by simp) hm)
 clear hS CW hlw
 go_enter Tryz.func65, Tryz.ntmps65
 obtain ⟨s0, sf, ls⟩ := cells1t b1
 have HB1 := Lib.hid b1
 have HF1 := Lib.hid F1
 go_upto_region 1 with fail
 generalize w.alloc (.cells #[.pointer (some ⟨p, 0, none⟩)] 25 (0, 0)) = W1 at *
 clear F1 b1
 go_wp2_with fail
 refine CW1.out.mono ?_
 rintro e w2 ⟨rfl, f2⟩
 go_upto_region 4 with fail
 have F3 : Fr0 W1 (w2.alloc (.cells #[.int .i64 (txt L id).length, .int .i64 wt.lines, .int .i64 wt.head, .int .i64 wt.tail, .int .u64 wt.val, .int .u64 wt.scale] 47 (0, 0))) := f2.alloc _
 have b3 := alloc_at w2 (.cells #[.int .i64 (txt L id).length, .int .i64 wt.lines, .int .i64 wt.head, .int .i64 wt.tail, .int .u64 wt.val, .int .u64 wt.scale] 47 (0, 0)) w2.heap.size rfl
 generalize w2.alloc (.cells #[.int .i64 (txt L id).length, .int .i64 wt.lines, .int .i64 wt.head, .int .i64 wt.tail, .int .u64 wt.val, .int .u64 wt.scale] 47 (0, 0)) = W3 at *
 generalize w2.heap.size = K3 at *
 have HB3 := Lib.hid (F3.kept HB1.out)
 have HF3 := Lib.hid (HF1.out.trans F3)
 obtain ⟨e0, _, _, _, _, _, le, _⟩ := cells6t b3
 clear s0 sf ls f2 F3 b3 CW1 HB1 HF1
 go_wp2_with fail
 refine (CR.out W3).mono ?_
 rintro e w4 ⟨rfl, rfl⟩
 obtain ⟨s0, sf, ls⟩ := cells1t HB3.out
 go_wp2_with fail
 have F6 : Fr0 w ((W3.alloc (.cells (madeCells #[.int .u8 0] n) 5)).alloc (.cells #[.slice (some ⟨W3.heap.size, 0, none⟩) 0 n] 41 (0, 0))) := (HF3.out.alloc _).alloc _
 have hT6 : Tx w.heap.size ((W3.alloc (.cells (madeCells #[.int .u8 0] n) 5)).alloc (.cells #[.slice (some ⟨W3.heap.size, 0, none⟩) 0 n] 41 (0, 0))) (W3.heap.size + 1) (.slice (some ⟨W3.heap.size, 0, none⟩) 0 n) [] :=
  ⟨alloc2_1 W3 _ _, rfl, .inr ⟨W3.heap.size, n, _, rfl, Fr.size HF3.out, alloc2_0 W3 _ _, Nat.zero_le _, by unfold maxLen; omega, by rw [size_madeCells]; omega, by simp⟩⟩
 have hs6 := (((Fr0.refl W3).alloc (.cells (madeCells #[.int .u8 0] n) 5)).alloc (.cells #[.slice (some ⟨W3.heap.size, 0, none⟩) 0 n] 41 (0, 0))).kept HB3.out
 have hbt : B ≤ W3.heap.size + 1 := by have := Fr.size HF3.out; omega
 have CP := Lib.hid (CPA.out _ _ _ F6 hT6 hs6 hbt)
 have hw3 := Fr.size HF3.out
 have HF6 := Lib.hid F6
 generalize (W3.alloc (.cells (madeCells #[.int .u8 0] n) 5)).alloc (.cells #[.slice (some ⟨W3.heap.size, 0, none⟩) 0 n] 41 (0, 0)) = W6 at *
 generalize W3.heap.size = bb at *
 clear F6 hT6 hs6 CPA
 refine CP.out.mono ?_
 rintro e w7 ⟨v7, rfl, h7⟩
 have HF7 : Hid (Fr0 w w7) := Fr.trans HF6.out h7.fr (fun i hi hlt => by
  rcases hi with e | e
  · omega
  · have : bb = i := Option.some.inj e
    omega)
 rw [List.nil_append] at h7
 obtain ⟨va, vc, rfl⟩ := owns_form h7.tx.row
 have HR7 := Lib.hid h7.tx.row
 obtain ⟨t0, tf, lt⟩ := cells1t h7.tx.box
 clear h7 CP s0 sf ls e0 le
 go_wp2_with fail
 go_ret2
 exact ⟨_, rfl, HR7.out, HF7.out⟩
end Go.Proofs.YtgldjpldldknoaaGreatDoor

/- The walk of the law's Parser. -/
import Derived.Test.YtodmpcnpedpheaaGreatDoorRDq8
import Derived.Lib.SlBytesConst
set_option linter.unusedSimpArgs false
set_option linter.unusedVariables false
namespace Go.Proofs.YtodmpcnpedpheaaGreatDoor
open Go.RowKit

theorem rowC_built (w : World) (x y : Int) : RowC (w.alloc (.cells #[.int .u8 x, .int .u8 y] 5 (2, 3))) w.heap.size .u8 [x, y] := by
  have h := alloc_at w (.cells #[.int .u8 x, .int .u8 y] 5 (2, 3)) w.heap.size rfl
  refine ⟨lt_of_block h, fun i hi => ?_⟩
  rw [cell_of_block h]
  have : i = 0 ∨ i = 1 := by simp at hi; omega
  rcases this with rfl | rfl <;> rfl

set_option maxRecDepth 100000 in
set_option maxHeartbeats 4000000 in
theorem law_Parser {w : World} (hdeb : Deb w.heap.size w) :
    Calls Tryz.prog 5 #[] w fun e w' => ∃ pp tp p mb L T, e = .returned (.tuple #[.pointer (some ⟨pp, 0, none⟩), .bool true]) ∧ Pq w.heap.size w' pp tp p mb 1048576 L T ∧ Fr0 w w' ∧ L.length ≤ 16 := by
  have HDB := Lib.hid hdeb
  clear hdeb
  have kc : ∀ (w : World) (x y : Int), (convert 70 70 (.slice (some ⟨w.heap.size, 0, none⟩) 2 2)).run Tryz.prog (w.alloc (.cells #[.int .u8 x, .int .u8 y] 5 (0, 0))) = .ok (.slice (some ⟨w.heap.size, 0, none⟩) 2 2) (w.alloc (.cells #[.int .u8 x, .int .u8 y] 5 (2, 3))) :=
    fun w x y => Lib.run_convert_bytes_const (P := Tryz.prog) w 70 5 #[.int .u8 x, .int .u8 y] 2 2 (by kernel_rfl) (by kernel_rfl)
  go_enter Tryz.func5, Tryz.ntmps5
  go_wp2_with fail
  refine (st_New w).mono ?_
  rintro e w1 ⟨rfl, f1, hst, hsz⟩
  have hS1 : Sto w.heap.size w1 (w.heap.size + 1) w.heap.size 1048576 [] := ⟨_, hst, by omega, by omega, fun k hk => by cases hk⟩
  have C1 := Lib.hid (sig_New hS1 (fun i h => by simp at h) DOk.nil Uq.nil (Fr.size f1) (HDB.out.low (fun k hk hk2 => f1.block k hk2 id)) (by simp))
  have HF1 := Lib.hid f1
  clear hst hsz hS1 f1
  go_wp2_with fail
  refine C1.out.mono ?_
  rintro e w2 ⟨pp, tp, rfl, hp2, f2⟩
  have HP2 := Lib.hid hp2
  have HF2 := Lib.hid (HF1.out.trans f2)
  clear hp2 f2 C1 HF1
  generalize w.heap.size + 1 = p at *
  have FB3 : Fr0 w2 (w2.alloc (.cells #[.int .u8 97, .int .u8 98] 5 (2, 3))) := (Fr0.refl w2).alloc _
  have HFB3 := Lib.hid (HF2.out.trans FB3)
  have CO3 := Lib.hid (sig_Of (cap := 2) (HP2.out.kept0 FB3) (rowC_built w2 97 98) ⟨_, _, _, alloc_at w2 _ _ rfl, by decide⟩ (by intro b hb; simp at hb; omega) (by simp) (by simp) (by simp) (by simp))
  clear FB3
  go_wp2_with fail
  refine CO3.out.mono ?_
  rintro e w3 ⟨L3, T3, ida, rfl, hp3, hx3, hg3, hka, hna, eA, hla⟩
  have HP3 := Lib.hid hp3
  have HF3 := Lib.hid (Kx.all0 HFB3.out hx3)
  have hl3 : L3.length ≤ 4 := by have := hg3.gr.len; simpa using this
  have HSA : Hid (SigOk L3 ida) := ⟨hka, .inr hla⟩
  have hd3 := hp3.dok
  clear hp3 hx3 hg3 CO3 hka hna hla HP2 HF2 HFB3
  have FB4 : Fr0 w3 (w3.alloc (.cells #[.int .u8 98, .int .u8 97] 5 (2, 3))) := (Fr0.refl w3).alloc _
  have HFB4 := Lib.hid (HF3.out.trans FB4)
  have CO4 := Lib.hid (sig_Of (cap := 2) (HP3.out.kept0 FB4) (rowC_built w3 98 97) ⟨_, _, _, alloc_at w3 _ _ rfl, by decide⟩ (by intro b hb; simp at hb; omega) (by simp) (by simp) (by simp; omega) (by simp; omega))
  clear FB4
  go_wp2_with fail
  refine CO4.out.mono ?_
  rintro e w4 ⟨L4, T4, idb, rfl, hp4, hx4, hg4, hkb, hnb, eB, hlb⟩
  have HP4 := Lib.hid hp4
  have HF4 := Lib.hid (Kx.all0 HFB4.out hx4)
  have hl4 : L4.length ≤ 8 := by have := hg4.gr.len; simp at this; omega
  have HSB : Hid (SigOk L4 idb) := ⟨hkb, .inr hlb⟩
  obtain ⟨hsa, esa⟩ := HSA.out.more hd3 hg4
  rw [eA] at esa
  have HSA4 := Lib.hid hsa
  have C5 := Lib.hid (df_Distance hp4 hsa HSB.out esa eB (by simp) (by simp))
  rw [show distV [97, 98] [98, 97] = .tuple #[.int .i64 2, .nilIface] by unfold distV; rw [edp_abba]; rfl] at C5
  clear hp4 hx4 CO4 hkb hnb hlb HP3 HF3 HFB4 hg4 HSA hsa hd3
  go_wp2_with fail
  refine C5.out.mono ?_
  rintro e w5 ⟨T5, rfl, hp5, hx5⟩
  have HF5 := Lib.hid (Kx.all0 HF4.out hx5)
  have C6 := Lib.hid (df_Of hp5 HSA4.out HSB.out esa eB (by simp) (by simp) (by rw [edp_abba]; omega) (by simp; omega) (by omega))
  have hd5 := hp5.dok
  clear hp5 hx5 C5 HP4 HF4
  go_wp2_with fail
  refine C6.out.mono ?_
  rintro e w6 ⟨L6, cs, pv, rfl, ⟨T6, hp6⟩, hx6, hg6, hr6, hc6⟩
  have HF6 := Lib.hid (Kx.all0 HF5.out hx6)
  rw [edp_abba, scr_abba] at hc6
  obtain ⟨i1, i2, rfl, hi1⟩ := hc6.two
  obtain rfl : i1 = 0 := hi1 rfl
  obtain ⟨ha6, ea6⟩ := HSA4.out.more hd5 hg6
  obtain ⟨hb6, eb6⟩ := HSB.out.more hd5 hg6
  rw [esa] at ea6
  rw [eB] at eb6
  have hl6 : L6.length ≤ 12 := by have := hg6.gr.len; simp at this; omega
  have C7 := Lib.hid (df_Ratio hp6 ha6 hb6 ea6 eb6 (by simp) (by simp))
  rw [show ratioV [97, 98] [98, 97] = .tuple #[.int .i64 1, .nilIface] by unfold ratioV; rw [edp_abba]; rfl] at C7
  obtain ⟨g, cap, cur, hv, hbg, hg, hn1, hn2, hs, ht⟩ := hr6.2.resolve_left (fun h => by simp at h)
  have HR6 := Lib.hid hr6
  clear hp6 hx6 C6 HF5 hg6 hc6 hi1 ha6 hb6 hd5
  subst hv
  go_wp2_with fail
  refine C7.out.mono ?_
  rintro e w7 ⟨T7, rfl, hp7, hx7⟩
  have HF7 := Lib.hid (Kx.all0 HF6.out hx7)
  have HP7 := Lib.hid hp7
  have hr7 := Kx.owns hx7 HR6.out (by decide)
  have x0 := hr7.cells (g := g) rfl 0 (.int .i64 0) rfl
  have x1 := hr7.cells (g := g) rfl 1 (.int .i64 1) rfl
  have x2 := hr7.cells (g := g) rfl 2 (.int .i64 0) rfl
  have x3 := hr7.cells (g := g) rfl 3 (.int .i64 2) rfl
  simp only [Addr.add_lit, Nat.zero_add] at x0 x1 x2 x3
  clear hp7 hx7 hr7 C7 HF6 HR6
  go_upto_region 9 with fail
  go_quiet (fail)
  go_wp2_with fail
  go_ret2
  exact ⟨pp, tp, p, w.heap.size, L6, T7, rfl, HP7.out.kept0 ((Fr0.refl w7).drewN _), HF7.out.trans ((Fr0.refl w7).drewN _), by omega⟩

end Go.Proofs.YtodmpcnpedpheaaGreatDoor

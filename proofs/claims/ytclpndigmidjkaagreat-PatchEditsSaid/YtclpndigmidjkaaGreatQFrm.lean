/- The walks of evergreenlaw37.From and of evergreenref37.Same at equal lists. -/
import Derived.Test.YtclpndigmidjkaaGreatQCm37
import Derived.Laws.StructEq
set_option linter.unusedSimpArgs false
set_option linter.unusedVariables false
namespace Go.Proofs.YtclpndigmidjkaaGreat
open Go.RowKit

/-- A plain change with a string. -/
def PC.ps (c : PC) : PS := ⟨c.at_, c.n, strOfNums c.text⟩

theorem info_ps : (Tryz.prog.info? 113).map (fun i => (i.zero, i.size, i.bytes)) = some (some (.agg #[.int .i64 0, .int .i64 0, .string ByteArray.empty]), 3, 32) := by kernel_rfl
theorem rt_ps : RT 54 113 3 32 := by
  obtain ⟨i, h1, h2, h3, h4⟩ := info_parts info_ps
  exact ⟨by omega, i, _, Tryz.underlying54, h1, h2, h3, h4, rfl⟩

set_option maxRecDepth 100000 in
set_option maxHeartbeats 2000000 in
theorem law37_From {B : Nat} {w : World} {p mb : Nat} {most : Int} {L : List Ent} (hS : Sto B w p mb most L) (hO : SOk L) (hD : DOk L) (hBig : L.length ≤ 1000000) {ps : List PC} {cs : List Chg} {a : Option Addr} {cap : Nat} (hC : RG Chg.vals 3 B w a cs) (hP : PChg L cs ps) (hl : cs.length ≤ 100000) (ht : ∀ c ∈ ps, c.text.length ≤ 4096) :
    Calls Tryz.prog 27 #[.pointer (some ⟨p, 0, none⟩), .slice a cs.length cap] w fun e w' => ∃ v, e = .returned (.tuple #[v, .bool true]) ∧ OwnG PS.vals 113 3 w w' v (ps.map PC.ps) := by
  have HCL := Lib.hid hP.len
  have HS := Lib.hid hS
  have HO := Lib.hid hO
  have HD := Lib.hid hD
  have HC := Lib.hid hC
  have HP := Lib.hid hP
  have HT := Lib.hid ht
  clear hS hO hD hC hP ht
  go_enter Tryz.func27, Tryz.ntmps27
  go_wp2_with fail
  go_loopw [6, 13] (fun v i wr => ∃ k : Nat, k ≤ cs.length ∧ i = .int .i64 k ∧ OwnG PS.vals 113 3 w wr v ((ps.take k).map PC.ps)) (fun _ i _ => cs.length - (intOf i).toNat)
  case atStart => exact ⟨0, Nat.zero_le _, rfl, OwnG.nil _ _ _ (Fr0.refl w)⟩
  case round =>
    obtain ⟨k, hk, rfl, hO1⟩ := hrel
    by_cases hlt : k < cs.length
    · have hlt2 : k < ps.length := by have := HCL.out; omega
      obtain ⟨b, off, rfl, lb, _, hc⟩ := (HC.out.kept0 hO1.fr) k hlt
      have c0 := hc 0 _ rfl
      have c1 := hc 1 _ rfl
      have c2 := hc 2 _ rfl
      rw [Nat.add_zero] at c0
      obtain ⟨g1, g2, dx, hbx⟩ := HP.out.get k hlt hlt2
      have CP := Lib.hid (fun W (hW : Fr0 wr W) => law37_Plain (HS.out.kept0 (hO1.fr.trans hW)) HO.out HD.out hBig hbx (HT.out _ (List.getElem_mem _)))
      have HTK : Hid ((ps.take (k + 1)).map PC.ps = (ps.take k).map PC.ps ++ [⟨cs[k].at_, cs[k].n, strOfNums ps[k].text⟩]) := by
        show _ = _
        rw [List.take_succ_eq_append_getElem hlt2, List.map_append, g1, g2]; rfl
      have HO1 := Lib.hid hO1
      have hxl : ((ps.take k).map PC.ps).length ≤ 1000000 := by rw [List.length_map, List.length_take]; omega
      clear hc g1 g2 hbx HC HS HO HD HP HT hO1
      generalize cs[k] = c at *
      generalize strOfNums ps[k].text = tx at *
      generalize (ps.take k).map PC.ps = xs at *
      go_wp2_with fail
      refine (CP.out _ ((Fr0.refl wr).alloc _)).mono ?_
      rintro e w3 ⟨rfl, f3⟩
      have hr3 := f3.kept (b := wr.heap.size) (alloc_at wr _ _ rfl)
      have F3 := ((Fr0.refl wr).alloc (.cells #[.int .i64 c.at_, .int .i64 c.n, .int .i64 c.text] 41 (0, 0))).trans f3
      obtain ⟨e0, e1, e2, _, le⟩ := cells3 hr3
      have hrow := F3.owns HO1.out.row
      have hbs : w.heap.size ≤ w3.heap.size := Fr.size (HO1.out.fr.trans F3)
      clear f3 hr3 CP
      go_wp2_with (at_builtin; refine wpList_pushG (vals := PS.vals) rt_ps rfl _ _ rfl w.heap.size _ xs rfl hrow hbs 113 ⟨c.at_, c.n, tx⟩ #[.int .i64 c.at_, .int .i64 c.n, .string tx] rfl rfl (by simp [PS.vals, Value.oneCell']) 1 _ rfl rfl (by omega) hxl ?_; intro v' w4 hO4 hg4 hat4)
      have hX := HO1.out.grown (F3.alloc _) hO4 hg4
      go_roundw
      case rel => exact ⟨k + 1, by omega, by go_num, by rw [HTK.out]; exact hX⟩
      case measure => simp [intOf]; omega
    · have hke : ps.take k = ps := List.take_of_length_le (by have := HCL.out; omega)
      rw [hke] at hO1
      have HO1 := Lib.hid hO1
      clear hO1 hke HC HS HO HD HP HT
      go_wp2_with fail
      go_ret2
      exact ⟨_, rfl, HO1.out⟩

set_option maxRecDepth 100000 in
set_option maxHeartbeats 1000000 in
theorem ref37_Same {B B' : Nat} {w : World} {a b : Option Addr} {cap cap' : Nat} {ps : List PS} (hA : RG PS.vals 3 B w a ps) (hB : RG PS.vals 3 B' w b ps) (hl : ps.length ≤ 1000000) :
    Calls Tryz.prog 29 #[.slice a ps.length cap, .slice b ps.length cap'] w fun e w' => e = .returned (.bool true) ∧ Fr0 w w' := by
  have HA := Lib.hid hA
  have HB := Lib.hid hB
  clear hA hB
  go_enter Tryz.func29, Tryz.ntmps29
  go_wp2_with fail
  go_loopw [13] (fun i wr => ∃ k : Nat, k ≤ ps.length ∧ i = .int .i64 k ∧ Fr0 w wr) (fun i _ => ps.length - (intOf i).toNat)
  case atStart => exact ⟨0, Nat.zero_le _, rfl, Fr0.refl w⟩
  case round =>
    obtain ⟨k, hk, rfl, hfr⟩ := hrel
    by_cases hlt : k < ps.length
    · obtain ⟨b1, off1, rfl, lb1, _, hc1⟩ := (HA.out.kept0 hfr) k hlt
      obtain ⟨b2, off2, rfl, lb2, _, hc2⟩ := (HB.out.kept0 hfr) k hlt
      have c0 := hc1 0 _ rfl
      have c1 := hc1 1 _ rfl
      have c2 := hc1 2 _ rfl
      rw [Nat.add_zero] at c0
      have d0 := hc2 0 _ rfl
      have d1 := hc2 1 _ rfl
      have d2 := hc2 2 _ rfl
      rw [Nat.add_zero] at d0
      clear hc1 hc2 HA HB
      generalize ps[k] = c at *
      go_upto_region 6 with fail
      go_quiet (fail)
      go_wp2_with fail
      go_roundw
      case rel => exact ⟨k + 1, by omega, by go_num, hfr.drewN _⟩
      case measure => simp [intOf]; omega
    · go_wp2_with fail
      go_ret
      exact ⟨rfl, hfr⟩

end Go.Proofs.YtclpndigmidjkaaGreat

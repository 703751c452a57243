/- The walk of evergreenref37.Invert. -/
import Derived.Test.YtclpndigmidjkaaQInv1
import Derived.Test.YtclpndigmidjkaaQFrm
import Derived.Deep.RegionHeld3
import Derived.Deep.AppendLies
set_option linter.unusedSimpArgs false
set_option linter.unusedVariables false
namespace Go.Proofs.Ytclpndigmidjkaa
open Go.RowKit

theorem step_pushG {α : Type} {vals : α → List Value} {ST T : TypeId} {size bytes : Nat} (hT : RT ST T size bytes) {w : World} {ops : Array Oper} {o : Oper} {a : Act} {K : Act → World → Prop} {Q : Exit → Act → World → Prop} {E : Prop} (hgd : o.guard = none) (s x : Operand)
    (ho : o.op = .call { callee := .builtin .append, args := #[s, x], argTypes := #[ST, ST] })
    (base : Nat) (v : Value) (xs : List α) (hs : a.eval s = v) (hown : w.ownsRow base T size v xs.length (xs.flatMap vals)) (hb : base ≤ w.heap.size) (T' : TypeId) (y : α) (cs : Array Value) (hcs : cs.toList = vals y) (hy : (vals y).length = size) (h1 : ∀ u ∈ vals y, u.oneCell' = true)
    (c H : Nat) (hH : w.heap.size = H) (hx : a.eval x = .slice (some ⟨H, 0, none⟩) 1 c) (hbytes : bytes ≤ 100) (hlen : xs.length ≤ 1000000)
    (h : ∀ g cap w', w'.ownsRow base T size (.slice (some ⟨g, 0, none⟩) (xs.length + 1) cap) (xs ++ [y]).length ((xs ++ [y]).flatMap vals) → (w.alloc (.cells cs T' (0, 0))).drew.grownBy w' v.ownBlock → K (a.put o.dst (.slice (some ⟨g, 0, none⟩) (xs.length + 1) cap)) w') :
    if Region.wanted o (yielded ops a.tmps) = true then Oper.wp Try.prog o a (w.alloc (.cells cs T' (0, 0))).drew K Q else E := by
  subst hH
  obtain ⟨hp, i, z, hu, hi, hz, hs', hby, hzs⟩ := hT
  have hby2 : (xs.length + 1) * bytes ≤ 140737488355328 := by
    have : (xs.length + 1) * bytes ≤ 1000001 * 100 := Nat.mul_le_mul (by omega) hbytes
    omega
  refine step_append_lies _ hgd s x ST ho base T i z size bytes hu hi hz hs' hby hzs hp v xs.length _ hs ((hown.alloc _).drew) ⟨w.heap.size, 0, none⟩ 1 c (vals y) hx (by rw [hy]; omega) ?_ h1 (by omega) (by unfold maxLen; omega) hby2 (by simp; omega) (w.heap.size + 1) (by simp) ?_
  · intro j u hj
    have h := World.news_of_block (cs := cs) (t := T') (fr := (0, 0)) (heap_alloc_new w (.cells cs T' (0, 0)))
    rw [← hcs] at hj
    exact h j u hj
  · intro g cap w' q1 q2 _ _
    exact h g cap w' (by simpa using q1) q2

theorem extract_cut (s : ByteArray) (A N : Nat) (h : A + N ≤ s.size) : s.extract A (A + N) = strOfNums (cutL (sbs s) A N) := by
  rw [← str_sbs (s.extract A (A + N))]
  congr 1
  unfold sbs cutL
  rw [ByteArray.data_extract, Array.toList_extract, ← List.map_drop, ← List.map_take]
  congr 1
  simp [List.extract_eq_take_drop]

set_option maxRecDepth 100000 in
set_option maxHeartbeats 4000000 in
theorem ref37_Invert {B : Nat} {w : World} (s : ByteArray) {a : Option Addr} {cap : Nat} {ps : List PS} (hA : RG PS.vals 3 B w a ps) (hl : ps.length ≤ 100000) (hs : s.size ≤ 100000) (hv : validP (sbs s).length (-1) (ps.map PS.pc) = true) (hT : (patR (sbs s) (ps.map PS.pc)).length ≤ 100000) (hz : ∀ c ∈ ps, c.s.size ≤ 100000) :
    Calls Try.prog 22 #[.string s, .slice a ps.length cap] w fun e w' => ∃ v, e = .returned v ∧ OwnG PS.vals 60 3 w w' v ((invG (sbs s) 0 (ps.map PS.pc)).map PC.ps) := by
  have HIV := Lib.hid (inv_ok hv).2
  have HA := Lib.hid hA
  have HV := Lib.hid hv
  have HZ := Lib.hid hz
  have HT := Lib.hid hT
  clear hA hv hz hT
  go_enter Try.func22, Try.ntmps22
  go_wp2_with fail
  go_loopw [5, 6, 11] (fun v m i wr => ∃ k : Nat, k ≤ ps.length ∧ i = .int .i64 k ∧ m = .int .i64 (moK 0 (ps.map PS.pc) k) ∧ OwnG PS.vals 60 3 w wr v (((invG (sbs s) 0 (ps.map PS.pc)).take k).map PC.ps)) (fun _ _ i _ => ps.length - (intOf i).toNat)
  case atStart => exact ⟨0, Nat.zero_le _, rfl, by rw [moK_zero], OwnG.nil _ _ _ (Fr0.refl w)⟩
  case round =>
    obtain ⟨k, hk, rfl, rfl, hO⟩ := hrel
    by_cases hlt : k < ps.length
    · have hlt2 : k < (ps.map PS.pc).length := by simpa using hlt
      have hlt3 : k < (invG (sbs s) 0 (ps.map PS.pc)).length := by rw [invG_len]; exact hlt2
      obtain ⟨b, off, rfl, lb, _, hc⟩ := (HA.out.kept0 hO.fr) k hlt
      have c0 := hc 0 _ rfl
      have c1 := hc 1 _ rfl
      have c2 := hc 2 _ rfl
      rw [Nat.add_zero] at c0
      obtain ⟨v1, v2, v3⟩ := validP_get _ _ HV.out k hlt2
      obtain ⟨u1, u2, u3⟩ := validP_get _ _ HIV.out k hlt3
      rw [invG_get (sbs s) (ps.map PS.pc) 0 k hlt2 hlt3] at u1 u2 u3
      have htk := invG_take (sbs s) (ps.map PS.pc) k hlt2
      have hmo := moK_succ (ps.map PS.pc) 0 k hlt2
      have hz1 := HZ.out ps[k] (List.getElem_mem _)
      have hTT := HT.out
      rw [List.getElem_map] at v1 v2 v3 htk hmo u1 u2 u3
      dsimp only [PS.pc] at v1 v2 v3 htk hmo u1 u2 u3
      rw [sbs_len] at v3 htk hmo u2 u3
      generalize ps[k] = c at *
      obtain ⟨ca, cn, cs⟩ := c
      dsimp only at *
      obtain ⟨CA, rfl⟩ : ∃ CA : Nat, ca = CA := ⟨ca.toNat, by omega⟩
      obtain ⟨CN, rfl⟩ : ∃ CN : Nat, cn = CN := ⟨cn.toNat, by omega⟩
      have HTK : Hid (((invG (sbs s) 0 (ps.map PS.pc)).take (k + 1)).map PC.ps = ((invG (sbs s) 0 (ps.map PS.pc)).take k).map PC.ps ++ [⟨(CA : Int) + moK 0 (ps.map PS.pc) k, (cs.size : Int), s.extract CA (CA + CN)⟩]) := by
        show _ = _
        rw [htk, List.map_append, extract_cut s CA CN (by omega)]
        rfl
      have HMO := Lib.hid hmo
      have HO := Lib.hid hO
      have hxl : (((invG (sbs s) 0 (ps.map PS.pc)).take k).map PC.ps).length ≤ 1000000 := by rw [List.length_map, List.length_take, invG_len, List.length_map]; omega
      generalize hmk : moK 0 (ps.map PS.pc) k = mo at *
      generalize ((invG (sbs s) 0 (ps.map PS.pc)).take k).map PC.ps = xs at *
      have hrow := hO.row
      have hfr := hO.fr
      have hb1 : -200000 ≤ mo := by omega
      have hb2 : mo ≤ 200000 := by omega
      clear hc htk hmo HA HV HIV HZ HT hO hmk u1 u2 u3 hTT
      go_wp2_with fail
      have hD := alloc_at wr (.cells #[.int .i64 (CA : Int), .int .i64 (CN : Int), .string cs] 60 (0, 0)) _ rfl
      have F1 : Fr0 wr (wr.alloc (.cells #[.int .i64 (CA : Int), .int .i64 (CN : Int), .string cs] 60 (0, 0))) := (Fr0.refl wr).alloc _
      generalize wr.alloc (.cells #[.int .i64 (CA : Int), .int .i64 (CN : Int), .string cs] 60 (0, 0)) = W at *
      obtain ⟨e0, e1, e2, _, le⟩ := cells3 hD
      have HD := Lib.hid hD
      have HF1 := Lib.hid F1
      have hroW := F1.owns hrow
      have hbs : w.heap.size ≤ W.heap.size := Fr.size (hfr.trans F1)
      clear hD F1 c0 c1 c2
      obtain ⟨Z, hZ⟩ : ∃ Z, Z = wr.heap.size := ⟨_, rfl⟩
      rw [← hZ] at e0 e1 e2 le HD ⊢
      have hfar : some Z ≠ u5.ownBlock := fun h => by have := (hrow.lt Z h.symm).2; omega
      clear hZ hrow
      have a1 := IntWalk.i64_in ((CA : Int) + mo) (by omega)
      have a2 := IntWalk.i64_in ((CA : Int) + (CN : Int)) (by omega)
      have a3 : (0 : Int) ≤ (CA : Int) + (CN : Int) := by omega
      have a4 : ((CA : Int) + (CN : Int)).toNat = CA + CN := by omega
      have a5 : (CA : Int) + (CN : Int) ≤ (s.size : Int) := by omega
      have a6 : (CA : Int) ≤ (CA : Int) + (CN : Int) := by omega
      go_region_held3 (fun w' => w'.cell? ⟨Z, 0, none⟩ = some (.int .i64 (CA : Int)) ∧ w'.cell? ⟨Z, 1, none⟩ = some (.int .i64 (CN : Int)) ∧ w'.cell? ⟨Z, 2, none⟩ = some (.string cs))
        (first
          | (go_keep; done)
          | (go_split_ands
             refine ⟨?_, ?_, ?_⟩
             · (rw [hg4.cell_far _ (by simp; omega) hfar]; assumption)
             · (rw [hg4.cell_far _ (by simp; omega) hfar]; assumption)
             · (rw [hg4.cell_far _ (by simp; omega) hfar]; assumption)))
        ((refine step_pushG (vals := PS.vals) rt_ps (by rfl) _ _ (by rfl) w.heap.size _ xs (by rfl) hroW hbs 60 ⟨(CA : Int) + mo, (cs.size : Int), s.extract CA (CA + CN)⟩ #[.int .i64 ((CA : Int) + mo), .int .i64 (cs.size : Int), .string (s.extract CA (CA + CN))] (by rfl) (by rfl) (by simp [PS.vals, Value.oneCell']) 1 W.heap.size (by rfl) (by rfl) (by omega) hxl ?_; intro g gcap w4 hO4 hg4))
      have hX := HO.out.grown ((HF1.out.alloc _).drew) hO4 hg4
      have l4 : Z < w4.heap.size := by have := hg4.size; simp at this; omega
      clear a1 a2 a3 a4 a5 a6 hO4 hg4 hroW
      go_wp2_with fail
      go_roundw
      case rel => exact ⟨k + 1, by omega, by go_num, by rw [HMO.out]; go_num, by rw [HTK.out]; exact hX⟩
      case measure => simp [intOf]; omega
    · have hke : (invG (sbs s) 0 (ps.map PS.pc)).take k = invG (sbs s) 0 (ps.map PS.pc) := List.take_of_length_le (by rw [invG_len, List.length_map]; omega)
      rw [hke] at hO
      have HO := Lib.hid hO
      clear hO hke HA HV HIV HZ HT
      generalize moK 0 (ps.map PS.pc) k = mo at *
      go_wp2_with fail
      go_ret
      exact ⟨_, rfl, HO.out⟩

end Go.Proofs.Ytclpndigmidjkaa

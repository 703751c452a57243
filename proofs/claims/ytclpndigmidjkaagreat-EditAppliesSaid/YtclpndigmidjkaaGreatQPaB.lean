/- The walk of patch.Apply where the changes are a patch. -/
import Derived.Test.YtclpndigmidjkaaGreatQPaA
set_option linter.unusedSimpArgs false
set_option linter.unusedVariables false
namespace Go.Proofs.YtclpndigmidjkaaGreat
open Go.RowKit

theorem ints_src2 (w : World) (x y : Int) (T : TypeId) (c H : Nat) (hH : w.heap.size = H) : SrcAt (w.alloc (.cells #[.int .i64 x, .int .i64 y] T (0, 0))) (.slice (some ⟨H, 0, none⟩) 2 c) 2 [.int .i64 x, .int .i64 y] := by
  subst hH
  refine .inr ⟨_, c, rfl, fun j u hj => ?_⟩
  have h := World.news_of_block (cs := #[.int .i64 x, .int .i64 y]) (t := T) (fr := (0, 0)) (heap_alloc_new w (.cells #[.int .i64 x, .int .i64 y] T (0, 0)))
  exact h j u hj

/-- The changes' texts in the second loop. -/
structure ApR (B : Nat) (w wr : World) (p mb : Nat) (most : Int) (L' : List Ent) (v : Value) (n : Nat) (xs : List Int) : Prop where
  st : Sto B wr p mb most L'
  kp : Kp B mb w wr
  own : wr.ownsRow w.heap.size 39 1 v n (xs.map fun x => Value.int .i64 x)

set_option maxRecDepth 100000 in
set_option maxHeartbeats 2000000 in
theorem pat_Apply_ok {B : Nat} {w : World} {p mb : Nat} {most : Int} {L : List Ent} {id : Int} {t : List Int} {d : Int} {ps : List PC} {cs : List Chg} {a : Option Addr} {cap : Nat} (D : Nat) (hR : Room B w p mb most L ((2 * ps.length + 1) * (11 * d.toNat + 1) + (2 * ps.length + 1) * (3 * D + 1)))
    (hb : BalZ L id t d) (hC : RG Chg.vals 3 B w a cs) (hP : PChg L cs ps) (hl : ps.length ≤ 100000) (hv : validP t.length (-1) ps = true) (hT : ((patR t ps).length : Int) ≤ 1152921504606846976) (hD : (patR t ps).length < lst (D + 1)) :
    Calls Tryz.prog 51 #[.pointer (some ⟨p, 0, none⟩), .int .i64 id, .slice a cs.length cap] w (ZPost B w p mb most L (patR t ps) (fun d' k => k ≤ (2 * ps.length + 1) * (11 * d.toNat + 1) + (2 * ps.length + 1) * (3 * D + 1))) := by
  have hlen := hb.len hR.dok hR.sok
  have hle := (hR.sok.at id hb.known).1.len1
  have hcl := hP.len
  have hpl := patR_len hv
  have hfm := hP.valid hR.dok hR.sok (length := t.length) (-1)
  rw [hv] at hfm
  have CA := Lib.hid (pat_applied (T := t.length) hR.st hb.known hb.even (by omega) (.slice a cs.length cap) (t.length - sumN cs + sumT (lnL L) cs) .nilIface (fun W hW => by
    obtain ⟨sv, hS, _⟩ := hR.st
    exact pat_Length_ok (hS.kept0 hW) hR.sok t.length (by omega) (by omega) a cap cs ((chgs_of_rg hC).kept0 hW) (by omega) hP.known hfm (by rw [hP.del, hP.ins hR.dok hR.sok]; omega)))
  have HR := Lib.hid hR
  have HB := Lib.hid hb
  have HC := Lib.hid hC
  have HP := Lib.hid hP
  have HV := Lib.hid hv
  have HCL := Lib.hid hcl
  have hcl2 : cs.length ≤ 100000 := by omega
  clear hfm hle hpl
  generalize (t.length : Int) - sumN cs + sumT (lnL L) cs = N at *
  have HT := Lib.hid hT
  have HD := Lib.hid hD
  by_cases h0 : cs.length = 0
  · have HE : Hid (patR t ps = t) := by
      have : ps = [] := List.eq_nil_of_length_eq_zero (by omega)
      subst this
      show patG _root_.id t 0 [] = t
      simp [patG]
    have h0' : ((cs.length : Int) == 0) = true := beq_iff_eq.2 (by omega)
    clear hR hb hC hP hv hcl hT hD hlen hl h0
    go_enter Tryz.func51, Tryz.ntmps51
    go_wp2_with fail
    refine CA.out.mono ?_
    rintro e w1 ⟨rfl, f1⟩
    go_wp2_with fail
    go_ret2
    exact ZPost.same HR.out f1 (by rw [HE.out]; exact HB.out) (by omega)
  · have h0' : ((cs.length : Int) == 0) = false := beq_eq_false_iff_ne.2 (by omega)
    have HLEN := Lib.hid hlen
    clear hR hb hC hP hv hcl hT hD hlen h0
    go_enter Tryz.func51, Tryz.ntmps51
    go_wp2_with fail
    refine CA.out.mono ?_
    rintro e w1 ⟨rfl, f1⟩
    have HF1 := Lib.hid f1
    clear f1 CA
    go_wp2_with fail
    go_loopw [10, 33] (fun v i wr => ∃ (k : Nat), k ≤ cs.length ∧ i = .int .i64 k ∧ OwnI 3 w wr v (ats (ps.take k))) (fun _ i _ => cs.length - (intOf i).toNat)
    case atStart => exact ⟨0, Nat.zero_le _, rfl, OwnI.nil _ HF1.out⟩
    case round =>
      obtain ⟨k, hk, rfl, hO⟩ := hrel
      clear HF1
      by_cases hlt : k < cs.length
      · have hlt2 : k < ps.length := by have := HCL.out; omega
        obtain ⟨b, off, rfl, lb, _, hc⟩ := (HC.out.kept0 hO.fr) k hlt
        have c0 := hc 0 _ rfl
        have c1 := hc 1 _ rfl
        have c2 := hc 2 _ rfl
        rw [Nat.add_zero] at c0
        obtain ⟨g1, g2, _⟩ := HP.out.get k hlt hlt2
        obtain ⟨v1, v2, v3⟩ := validP_get ps _ HV.out k hlt2
        have HTK := Lib.hid (ats_take ps k hlt2)
        rw [← g1, ← g2] at HTK v3
        rw [← g1] at v1
        rw [← g2] at v2
        have hal : (ats (ps.take k)).length ≤ 200000 := by rw [ats_len, List.length_take]; omega
        have htl : (t.length : Int) ≤ 1152921504606846976 := by have := HLEN.out; have := (HR.out.sok.at id HB.out.known).1.len1; omega
        have HO := Lib.hid hO
        clear hc g1 g2 HC HR HB HP HV
        generalize cs[k] = c at *
        generalize hxs : ats (ps.take k) = xs at *
        have HXS := Lib.hid hxs
        clear hxs hO
        go_wp2_with (at_builtin; refine wpList_append_rt rt_int rfl _ _ rfl w.heap.size _ xs.length _ rfl ((HO.out.row.alloc _).alloc _) _ 2 [.int .i64 c.at_, .int .i64 (c.at_ + c.n)] rfl (ints_src2 _ _ _ _ _ (wr.heap.size + 1) (by simp)) rfl (by simp [Value.oneCell']) (by unfold maxLen; omega) (by omega) (by have := HO.out.fr.size'; simp; omega) ?_; intro v' w4 hO4 hg4 hat4)
        have hX : OwnI 3 w w4 v' (xs ++ [c.at_, c.at_ + c.n]) := ⟨by simpa using hO4, Fr.grown ((HO.out.fr.alloc _).alloc _) hg4 (fun j hj hlt => by have := HO.out.ge j hj; omega)⟩
        go_roundw
        case rel => exact ⟨k + 1, by omega, by go_num, by rw [HTK.out]; exact hX⟩
        case measure => simp [intOf]; omega
      · have hke : k = cs.length := by omega
        have hall : ats (ps.take k) = ats ps := by rw [List.take_of_length_le (by have := HCL.out; omega)]
        rw [hall] at hO
        obtain ⟨aa, acap, rfl, hI⟩ := ints_of_own hO.row (by decide) (by decide)
        have CX := Lib.hid (spl_Cut (cap := acap) ((HR.out.kept0 hO.fr).less (by rw [ats_len]; exact Nat.le_add_right _ _)) HB.out hI (by rw [ats_len]; omega) (apply_incr HV.out))
        have HF := Lib.hid hO.fr
        clear hke hall hI hO hk
        go_wp2_with fail
        refine CX.out.mono ?_
        rintro e w5 ⟨L1, out, v, k1, rfl, hS1, hK1, g1, hk1, ho1, ha1⟩
        have hol : out.length = 2 * cs.length + 1 := by rw [ha1.len, pieces_len, ats_len, HCL.out]
        obtain ⟨g, vcap, rfl, hgb, _⟩ := ho1.form (by omega)
        have hap : ApR B w w5 p mb most L1 (.slice (some ⟨g, 0, none⟩) out.length vcap) out.length (repl out ((cs.map Chg.text).take 0)) := by
          rw [List.take_zero, repl_nil]
          exact ⟨hS1, (Kp.of0 HF.out).trans hK1, owns_low ho1 HF.out.size'⟩
        have HAP := Lib.hid hap
        have HALL := Lib.hid (repl_all ha1 (HP.out.more g1 HR.out.dok).all)
        have HG1 := Lib.hid g1
        have HOL := Lib.hid hol
        have hk1' : k1 ≤ (2 * ps.length + 1) * (11 * d.toNat + 1) := by rw [ats_len] at hk1; exact hk1
        have HGB : Hid (w.heap.size ≤ g) := by have := HF.out.size'; show _ ≤ _; omega
        clear hap hS1 hK1 ho1 ha1 hol CX HF g1 hk1 hgb
        generalize hnn : out.length = nn at *
        have HNN := Lib.hid hnn
        clear hnn
        have hn2 : nn = 2 * cs.length + 1 := HOL.out
        have hn3 : (nn : Int) = 2 * (cs.length : Int) + 1 := by omega
        clear hn2
        go_wp2_with fail
        clear hlt
        go_loopw [60] (fun i wr => ∃ (k : Nat), k ≤ cs.length ∧ i = .int .i64 k ∧ ApR B w wr p mb most L1 (.slice (some ⟨g, 0, none⟩) nn vcap) nn (repl out ((cs.map Chg.text).take k))) (fun i _ => cs.length - (intOf i).toNat)
        case atStart => exact ⟨0, Nat.zero_le _, rfl, HAP.out⟩
        case round =>
          clear HAP
          obtain ⟨k, hk, rfl, hr⟩ := hrel
          by_cases hlt : k < cs.length
          · obtain ⟨b, off, rfl, lb, _, hc⟩ := (HC.out.keptK hr.kp) k hlt
            have c0 := hc 0 _ rfl
            have c1 := hc 1 _ rfl
            have c2 := hc 2 _ rfl
            rw [Nat.add_zero] at c0
            have hset := repl_set k out (cs.map Chg.text) (by simpa using hlt) (by rw [List.length_map, HNN.out]; omega)
            rw [List.getElem_map] at hset
            have hxl : (repl out ((cs.map Chg.text).take k)).length = nn := by rw [repl_len]; exact HNN.out
            have HSET := Lib.hid hset
            have HRR := Lib.hid hr
            clear hc hset hr HC HR HB HP HV HALL HT HD
            generalize cs[k] = c at *
            generalize repl out ((cs.map Chg.text).take k) = xs at *
            have hcg := owns_cell HRR.out.own (2 * k + 1) (.int .i64 (xs[2 * k + 1]'(by omega))) (by rw [List.getElem?_map, List.getElem?_eq_getElem (by omega)]; rfl)
            generalize (xs[2 * k + 1]'(by omega)) = old at *
            obtain ⟨cur, hblk⟩ := owns_block HRR.out.own (k := g) rfl
            have hfz : ∀ o, wr.frozen? ⟨g, o, none⟩ = false := fun o => frozen_of_block hblk o
            have lg := lt_of_block hblk
            clear hblk
            have HNX : Hid (ApR B w ((wr.setCell ⟨g, 2 * k + 1, none⟩ (.int .i64 c.text)).alloc (.cells #[.int .i64 c.at_, .int .i64 c.n, .int .i64 c.text] 41 (0, 0))) p mb most L1 (.slice (some ⟨g, 0, none⟩) nn vcap) nn (xs.set (2 * k + 1) c.text)) := by
              refine ⟨(HRR.out.st.set HRR.out.own (by decide) (by decide) _ _).kept0 ((Fr0.refl _).alloc _), (HRR.out.kp.setCell _ _ HGB.out).alloc _, ?_⟩
              rw [List.map_set]
              exact (owns_set HRR.out.own _ _).alloc _
            clear hxl
            go_wp2_with fail
            go_roundw
            case rel => exact ⟨k + 1, by omega, by go_num, by rw [HSET.out]; exact HNX.out⟩
            case measure => simp [intOf]; omega
          · have hke : k = cs.length := by omega
            have hfl := apply_flat HV.out
            have hxl : (repl out (cs.map Chg.text)).length = nn := by rw [repl_len]; exact HNN.out
            rw [List.take_of_length_le (by rw [List.length_map]; omega)] at hr
            have hnp : nn = 2 * ps.length + 1 := by rw [HOL.out, HCL.out]
            have ho := hr.own
            rw [← hxl] at ho
            obtain ⟨ga, gcap, hgv, hI⟩ := ints_of_own ho (by decide) (by decide)
            rw [hxl] at hgv
            cases hgv
            have CC := Lib.hid (bal_Concat (cap := vcap) D (HR.out.next (k := (repl out (cs.map Chg.text)).length * (3 * D + 1)) hr.st hr.kp HG1.out (by rw [hxl, hnp]; omega)) hI HALL.out (by rw [hxl]; omega) (by rw [hfl]; exact HT.out) (by rw [hfl]; exact HD.out))
            rw [hxl, hfl, hnp] at CC
            have HKP := Lib.hid hr.kp
            clear hfl hxl ho hI hr hke hk HC HP HV HALL HT HD hn3
            subst hnp
            go_wp2_with fail
            refine CC.out.mono ?_
            rintro e w7 hx
            obtain ⟨z, rfl⟩ := hx.ret
            have HX := Lib.hid (ZPost.next (E := fun d' k => k ≤ (2 * ps.length + 1) * (11 * d.toNat + 1) + (2 * ps.length + 1) * (3 * D + 1)) HKP.out HG1.out hx (fun e k h => by have h2 := h.2; omega))
            clear hx CC
            go_wp2_with fail
            go_ret2
            exact HX.out

end Go.Proofs.YtclpndigmidjkaaGreat

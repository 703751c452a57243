/- The walk of PatchComposes. -/
import Derived.Test.YtclpndigmidjkaaGreatQBtw1
import Derived.Test.YtclpndigmidjkaaGreatQCmp
import Derived.Test.YtclpndigmidjkaaGreatQAp0
set_option linter.unusedSimpArgs false
set_option linter.unusedVariables false
namespace Go.Proofs.YtclpndigmidjkaaGreat
open Go.RowKit

/-- The world behind the two calls of To. -/
structure CoSt (w w4 : World) (a : Option Addr) (ps : List PS) (b : Option Addr) (qs : List PS) (p mb : Nat) (L : List Ent) (va : Option Addr) (cs : List Chg) (vb : Option Addr) (ds : List Chg) (n : Nat) : Prop where
  room : Room w.heap.size w4 p mb 1048576 L n
  big : L.length + n ≤ 1003000
  chgs : RG Chg.vals 3 w.heap.size w4 va cs
  pchg : PChg L cs (ps.map PS.pc)
  chgs' : RG Chg.vals 3 w.heap.size w4 vb ds
  pchg' : PChg L ds (qs.map PS.pc)
  args : RG PS.vals 3 w.heap.size w4 a ps
  args' : RG PS.vals 3 w.heap.size w4 b qs
  fr : Fr0 w w4

theorem CoSt.mk' {w w2 w3 w4 : World} {a b : Option Addr} {ps qs : List PS} {p mb : Nat} {L L3 L4 : List Ent} {k3 k4 : Nat} {v v' : Value} {cs ds : List Chg} (hR : Room w.heap.size w2 p mb 1048576 L 1000000) (hL : L.length ≤ 1000) (hF : Fr0 w w2) (hA : RG PS.vals 3 w.heap.size w a ps) (hA' : RG PS.vals 3 w.heap.size w b qs) (hc : costL ps + costL qs ≤ 800)
    (hK3 : Kp w.heap.size mb w2 w3) (g3 : Grows L L3 k3) (hk3 : k3 ≤ 2 * insP (ps.map PS.pc)) (ho3 : w3.ownsRow w2.heap.size 41 3 v cs.length (cs.flatMap Chg.vals)) (hP3 : PChg L3 cs (ps.map PS.pc))
    (hS4 : Sto w.heap.size w4 p mb 1048576 L4) (hK4 : Kp w.heap.size mb w3 w4) (g4 : Grows L3 L4 k4) (hk4 : k4 ≤ 2 * insP (qs.map PS.pc)) (ho : w4.ownsRow w3.heap.size 41 3 v' ds.length (ds.flatMap Chg.vals)) (hP : PChg L4 ds (qs.map PS.pc)) :
    ∃ va vcap vb vcap', v = .slice va cs.length vcap ∧ v' = .slice vb ds.length vcap' ∧ CoSt w w4 a ps b qs p mb L4 va cs vb ds 998000 := by
  obtain ⟨va, vcap, rfl, hrg⟩ := rg_of_own (vals := Chg.vals) (size := 3) (B := w.heap.size) (fun c _ => rfl) ho3 (by decide) (by decide)
  obtain ⟨vb, vcap', rfl, hrg'⟩ := rg_of_own (vals := Chg.vals) (size := 3) (B := w.heap.size) (fun c _ => rfl) ho (by decide) (by decide)
  have hi := costL_ins ps
  have hi' := costL_ins qs
  have hF3 := Kp.all0 hF hK3
  have hF4 := Kp.all0 hF3 hK4
  have hK := hK3.trans hK4
  have hG : Grows L L4 1600 := g3.trans g4 (by omega)
  exact ⟨va, vcap, vb, vcap', rfl, rfl, ⟨hR.next (k := 998000) hS4 hK hG (by omega), by have := hG.len; omega, hrg.keptK hK4, hP3.more g4 g3.dok, hrg', hP, hA.kept0 hF4, hA'.kept0 hF4, hF4⟩⟩

theorem btw_rng (len : Int) : ∀ (F : List (Int × Int)) (next : Int) (tx : List Int), (∀ c ∈ F, c.2 < 0 → 0 ≤ c.1 ∧ c.1 < 256) → (∀ x ∈ tx, 0 ≤ x ∧ x < 256) → ∀ c ∈ btw len next tx F, ∀ x ∈ c.text, 0 ≤ x ∧ x < 256
  | [], next, tx, _, ht, c, hc => by
    rw [btw] at hc
    unfold chgIf at hc
    split at hc
    · simp only [List.mem_singleton] at hc
      subst hc
      exact ht
    · simp at hc
  | d :: r, next, tx, hF, ht, c, hc => by
    rw [btw] at hc
    by_cases h0 : d.2 < 0
    · rw [if_pos h0] at hc
      refine btw_rng len r next _ (fun c hc => hF c (by simp [hc])) ?_ c hc
      intro x hx
      rcases List.mem_append.1 hx with hx | hx
      · exact ht x hx
      · simp only [List.mem_singleton] at hx
        subst hx
        exact hF d (by simp) h0
    · rw [if_neg h0] at hc
      rcases List.mem_append.1 hc with hc | hc
      · unfold chgIf at hc
        split at hc
        · simp only [List.mem_singleton] at hc
          subst hc
          exact ht
        · simp at hc
      · exact btw_rng len r _ [] (fun c hc => hF c (by simp [hc])) (by simp) c hc

theorem patG_rng (T : List (Int × Int)) (hT : ∀ c ∈ T, c.2 < 0 → 0 ≤ c.1 ∧ c.1 < 256) : ∀ (ps : List PC) (f : Int), (∀ c ∈ ps, ∀ x ∈ c.text, 0 ≤ x ∧ x < 256) → ∀ c ∈ patG embC T f ps, c.2 < 0 → 0 ≤ c.1 ∧ c.1 < 256
  | [], f, _, c, hc, h => hT c (List.mem_of_mem_drop hc) h
  | d :: r, f, hp, c, hc, h => by
    rw [patG] at hc
    rcases List.mem_append.1 hc with hc | hc
    · exact hT c (List.mem_of_mem_drop (List.mem_of_mem_take hc)) h
    · rcases List.mem_append.1 hc with hc | hc
      · obtain ⟨x, hx, rfl⟩ := List.mem_map.1 hc
        exact hp d (by simp) x hx
      · exact patG_rng T hT r _ (fun c hc => hp c (by simp [hc])) c hc h
theorem pcs_rng (ps : List PS) : ∀ c ∈ ps.map PS.pc, ∀ x ∈ c.text, 0 ≤ x ∧ x < 256 := by
  intro c hc x hx
  obtain ⟨d, _, rfl⟩ := List.mem_map.1 hc
  exact sbs_rng d.s x hx
theorem runC_rng (f : Int) (hf : 0 ≤ f) (n : Nat) : ∀ c ∈ runC f n, c.2 < 0 → 0 ≤ c.1 ∧ c.1 < 256 := by
  intro c hc h
  obtain ⟨i, _, rfl⟩ := List.mem_map.1 hc
  have : f + (i : Int) < 0 := h
  omega
theorem pc_ps_id {ps : List PC} (h : ∀ c ∈ ps, ∀ x ∈ c.text, 0 ≤ x ∧ x < 256) : (ps.map PC.ps).map PS.pc = ps := by
  rw [List.map_map]
  conv => rhs; rw [← List.map_id ps]
  refine List.map_congr_left fun c hc => ?_
  show PS.pc ⟨c.at_, c.n, strOfNums c.text⟩ = c
  unfold PS.pc
  rw [sbs_str (h c hc)]

/-- The letters of both sides. -/
theorem comp_cells (t : List Int) (ps : List PC) : patG embC (cellsOf t) 0 ps = (patG embC (runC 0 t.length) 0 ps).map (fillC t) := by
  rw [patG_map (fillC t) embC embC (fillC_emb t), fill_run]

/-- What the law says, in plain words. -/
theorem comp_law {t : List Int} {ps qs : List PC} (hv : validP t.length (-1) ps = true) (hv' : validP (patG embC (runC 0 t.length) 0 ps).length (-1) qs = true) (hp : ∀ c ∈ ps, ∀ x ∈ c.text, 0 ≤ x ∧ x < 256) (hq : ∀ c ∈ qs, ∀ x ∈ c.text, 0 ≤ x ∧ x < 256) {T2 : List (Int × Int)} (hT : patG embC (patG embC (runC 0 t.length) 0 ps) 0 qs = T2) :
    validP t.length (-1) (btw t.length 0 [] T2) = true ∧ (∀ c ∈ btw t.length 0 [] T2, ∀ x ∈ c.text, 0 ≤ x ∧ x < 256) ∧ (patG embC (cellsOf t) 0 (btw t.length 0 [] T2)).map Prod.fst = (patG embC (patG embC (cellsOf t) 0 ps) 0 qs).map Prod.fst := by
  have hm1 : Mem t.length 0 (patG embC (runC 0 t.length) 0 ps) := (Mem.run t.length).pat (by rw [runC_len]; exact hv)
  have hm2 : Mem t.length 0 T2 := by rw [← hT]; exact hm1.pat hv'
  refine ⟨btw_valid _ T2 0 (-1) [] hm2 (by omega) (by omega) (by omega), btw_rng _ T2 0 [] ?_ (by simp), ?_⟩
  · rw [← hT]
    exact patG_rng _ (patG_rng _ (runC_rng 0 (by omega) _) ps 0 hp) qs 0 hq
  · rw [patC_fst, comp_cells t ps, ← patG_map (fillC t) embC embC (fillC_emb t), hT]
    have := btw_leads t T2 0 0 [] hm2 (by omega) (by omega) (by omega)
    unfold patR
    rw [this]
    simp

set_option maxRecDepth 100000 in
set_option maxHeartbeats 2000000 in
theorem composes_long {w : World} (s : ByteArray) {a b : Option Addr} {cap1 cap2 : Nat} {ps qs : List PS} (hA : RG PS.vals 3 w.heap.size w a ps) (hB : RG PS.vals 3 w.heap.size w b qs) (hl : s.size + costL ps + costL qs ≤ 1000000000) (hsm : ¬ s.size + costL ps + costL qs ≤ 800) :
    Calls Tryz.prog 4 #[.string s, .slice a ps.length cap1, .slice b qs.length cap2] w fun e w' => e = .returned (.bool true) ∧ Fr0 w w' := by
  have CS := Lib.hid (law37_Store w)
  have HA := Lib.hid hA
  have HB := Lib.hid hB
  have HSM : Hid (decide (s.size + costs [ps, qs] ≤ 800) = false) := decide_eq_false (by simp only [costs]; omega)
  have HL : Hid (s.size + costs [ps, qs] ≤ 1000000000) := by show _ ≤ _; simp only [costs]; omega
  clear hA hB hl hsm
  go_enter Tryz.func4, Tryz.ntmps4
  go_wp2_with fail
  refine CS.out.mono ?_
  rintro e w1 ⟨p, mb, L, rfl, hR, hL, hF⟩
  have CM := Lib.hid (law37_small (cap := 2) s (pss_two (cap := cap1) (cap' := cap2) 54 (HA.out.kept0 hF) (HB.out.kept0 hF)) HL.out (by simp) false HSM.out)
  have HF := Lib.hid hF
  clear CS hR hF hL
  go_wp2_with fail
  refine CM.out.mono ?_
  rintro e w2 ⟨rfl, f2⟩
  go_wp2_with fail
  go_ret
  exact ⟨rfl, (HF.out.alloc _).trans f2⟩

set_option maxRecDepth 100000 in
set_option maxHeartbeats 4000000 in
theorem composes_bad {w : World} (s : ByteArray) {a b : Option Addr} {cap1 cap2 : Nat} {ps qs : List PS} (hA : RG PS.vals 3 w.heap.size w a ps) (hB : RG PS.vals 3 w.heap.size w b qs) (hsm : s.size + costL ps + costL qs ≤ 800) (hv : validP s.size (-1) (ps.map PS.pc) = false) :
    Calls Tryz.prog 4 #[.string s, .slice a ps.length cap1, .slice b qs.length cap2] w fun e w' => e = .returned (.bool true) ∧ Fr0 w w' := by
  have HV := Lib.hid hv
  clear hv
  have CS := Lib.hid (law37_Store w)
  have HA := Lib.hid hA
  have HB := Lib.hid hB
  have HSM : Hid (decide (s.size + costs [ps, qs] ≤ 800) = true) := decide_eq_true (by simp only [costs]; omega)
  have HL : Hid (s.size + costs [ps, qs] ≤ 1000000000) := by show _ ≤ _; simp only [costs]; omega
  have hpl := costL_len ps
  have hql := costL_len qs
  have HMEM := Lib.hid (costL_mem ps)
  have HMEM2 := Lib.hid (costL_mem qs)
  have HI := Lib.hid (costL_ins ps)
  have HI2 := Lib.hid (costL_ins qs)
  have hs8 : s.size ≤ 800 := by omega
  clear hA hB
  go_enter Tryz.func4, Tryz.ntmps4
  go_wp2_with fail
  refine CS.out.mono ?_
  rintro e w1 ⟨p, mb, L, rfl, hR, hL, hF⟩
  have CM := Lib.hid (law37_small (cap := 2) s (pss_two (cap := cap1) (cap' := cap2) 54 (HA.out.kept0 hF) (HB.out.kept0 hF)) HL.out (by simp) true HSM.out)
  have HR := Lib.hid hR
  have HF := Lib.hid hF
  clear CS hR hF
  go_wp2_with fail
  refine CM.out.mono ?_
  rintro e w2 ⟨rfl, f2⟩
  have hR2 := HR.out.kept0 (((Fr0.refl w1).alloc _).trans f2)
  have hF2 := (HF.out.alloc _).trans f2
  have CO := Lib.hid (law37_To (cap := cap1) (hR2.less (by have := HI.out; omega)) (HA.out.kept0 hF2) (by omega) (fun c hc => by have := HMEM.out c hc; omega))
  have HR2 := Lib.hid hR2
  have HF2 := Lib.hid hF2
  clear CM f2 hR2 hF2 HR HF
  go_wp2_with fail
  refine CO.out.mono ?_
  rintro e w3 ⟨L3, v3, cs, k3, rfl, hS3, hK3, g3, hk3, ho3, hp3⟩
  have hR3 := HR2.out.next (k := 990000) hS3 hK3 g3 (by have := HI.out; omega)
  have hF3 := Kp.all0 HF2.out hK3
  have CO2 := Lib.hid (law37_To (cap := cap2) (hR3.less (by have := HI2.out; omega)) (HB.out.kept0 hF3) (by omega) (fun c hc => by have := HMEM2.out c hc; omega))
  have HK3 := Lib.hid hK3
  have HG3 := Lib.hid g3
  have HO3 := Lib.hid ho3
  have HP3 := Lib.hid hp3
  clear hR3 hF3 hK3 g3 hS3 CO ho3 hp3
  go_wp2_with fail
  refine CO2.out.mono ?_
  rintro e w4 ⟨L4, v4, ds, k4, rfl, hS4, hK4, g4, hk4, ho4, hp4⟩
  obtain ⟨va, vcap, vb, vcap', rfl, rfl, hst⟩ := CoSt.mk' HR2.out hL HF2.out HA.out HB.out (by omega) HK3.out HG3.out hk3 HO3.out HP3.out hS4 hK4 g4 hk4 ho4 hp4
  have hcl := hst.pchg.len
  rw [List.length_map] at hcl
  have hcl' := hst.pchg'.len
  rw [List.length_map] at hcl'
  have hfm := hst.pchg.valid hst.room.dok hst.room.sok (length := s.size) (-1)
  rw [HV.out] at hfm
  have CK := Lib.hid (by
    obtain ⟨sv, hS, _⟩ := hst.room.st
    exact pat_Check_form hS s.size (by omega) (by omega) va vcap cs (chgs_of_rg hst.chgs) (by omega) (fun c hc => (hst.pchg.known c hc).1) hfm)
  have CX := Lib.hid (pat_Compose_err (s.size : Int) 0 (.slice va cs.length vcap) (.slice vb ds.length vcap') 4 (pat_Length_err (s.size : Int) (.slice va cs.length vcap) 4 CK.out))
  have CV := Lib.hid (fun W (hW : Fr0 w4 W) => ref37_Valid (cap := cap1) (hst.args.kept0 hW) (by omega) s.size (by omega) (by omega) false HV.out)
  have HFR := Lib.hid hst.fr
  clear hst hcl hcl' hfm CK HV HI HI2 HMEM HMEM2
  clear HR2 HF2 HK3 HG3 HO3 HP3 hS4 hK4 g4 hk4 ho4 hp4 CO2 hk3 HA HB
  go_wp2_with fail
  refine CX.out.mono ?_
  rintro e w5 ⟨rfl, f5⟩
  go_wp2_with fail
  refine (CV.out _ f5).mono ?_
  rintro e w8 ⟨rfl, f8⟩
  have F8 := HFR.out.trans (f5.trans f8)
  clear f5 f8
  go_wp2_with (go_at_call 20; refine (base_Is 4 _ (by omega)).mono ?_; rintro e w' ⟨rfl, rfl⟩)
  go_ret
  exact ⟨rfl, F8⟩

set_option maxRecDepth 100000 in
set_option maxHeartbeats 4000000 in
theorem composes_bad2 {w : World} (s : ByteArray) {a b : Option Addr} {cap1 cap2 : Nat} {ps qs : List PS} (hA : RG PS.vals 3 w.heap.size w a ps) (hB : RG PS.vals 3 w.heap.size w b qs) (hsm : s.size + costL ps + costL qs ≤ 800) (hv : validP s.size (-1) (ps.map PS.pc) = true) (hv2 : validP (patG embC (runC 0 s.size) 0 (ps.map PS.pc)).length (-1) (qs.map PS.pc) = false) :
    Calls Tryz.prog 4 #[.string s, .slice a ps.length cap1, .slice b qs.length cap2] w fun e w' => e = .returned (.bool true) ∧ Fr0 w w' := by
  have HV := Lib.hid hv
  have HV2 := Lib.hid hv2
  clear hv hv2
  have CS := Lib.hid (law37_Store w)
  have HA := Lib.hid hA
  have HB := Lib.hid hB
  have HSM : Hid (decide (s.size + costs [ps, qs] ≤ 800) = true) := decide_eq_true (by simp only [costs]; omega)
  have HL : Hid (s.size + costs [ps, qs] ≤ 1000000000) := by show _ ≤ _; simp only [costs]; omega
  have hpl := costL_len ps
  have hql := costL_len qs
  have HMEM := Lib.hid (costL_mem ps)
  have HMEM2 := Lib.hid (costL_mem qs)
  have HI := Lib.hid (costL_ins ps)
  have HI2 := Lib.hid (costL_ins qs)
  have hs8 : s.size ≤ 800 := by omega
  clear hA hB
  go_enter Tryz.func4, Tryz.ntmps4
  go_wp2_with fail
  refine CS.out.mono ?_
  rintro e w1 ⟨p, mb, L, rfl, hR, hL, hF⟩
  have CM := Lib.hid (law37_small (cap := 2) s (pss_two (cap := cap1) (cap' := cap2) 54 (HA.out.kept0 hF) (HB.out.kept0 hF)) HL.out (by simp) true HSM.out)
  have HR := Lib.hid hR
  have HF := Lib.hid hF
  clear CS hR hF
  go_wp2_with fail
  refine CM.out.mono ?_
  rintro e w2 ⟨rfl, f2⟩
  have hR2 := HR.out.kept0 (((Fr0.refl w1).alloc _).trans f2)
  have hF2 := (HF.out.alloc _).trans f2
  have CO := Lib.hid (law37_To (cap := cap1) (hR2.less (by have := HI.out; omega)) (HA.out.kept0 hF2) (by omega) (fun c hc => by have := HMEM.out c hc; omega))
  have HR2 := Lib.hid hR2
  have HF2 := Lib.hid hF2
  clear CM f2 hR2 hF2 HR HF
  go_wp2_with fail
  refine CO.out.mono ?_
  rintro e w3 ⟨L3, v3, cs, k3, rfl, hS3, hK3, g3, hk3, ho3, hp3⟩
  have hR3 := HR2.out.next (k := 990000) hS3 hK3 g3 (by have := HI.out; omega)
  have hF3 := Kp.all0 HF2.out hK3
  have CO2 := Lib.hid (law37_To (cap := cap2) (hR3.less (by have := HI2.out; omega)) (HB.out.kept0 hF3) (by omega) (fun c hc => by have := HMEM2.out c hc; omega))
  have HK3 := Lib.hid hK3
  have HG3 := Lib.hid g3
  have HO3 := Lib.hid ho3
  have HP3 := Lib.hid hp3
  clear hR3 hF3 hK3 g3 hS3 CO ho3 hp3
  go_wp2_with fail
  refine CO2.out.mono ?_
  rintro e w4 ⟨L4, v4, ds, k4, rfl, hS4, hK4, g4, hk4, ho4, hp4⟩
  obtain ⟨va, vcap, vb, vcap', rfl, rfl, hst⟩ := CoSt.mk' HR2.out hL HF2.out HA.out HB.out (by omega) HK3.out HG3.out hk3 HO3.out HP3.out hS4 hK4 g4 hk4 ho4 hp4
  have hcl := hst.pchg.len
  rw [List.length_map] at hcl
  have hcl' := hst.pchg'.len
  rw [List.length_map] at hcl'
  have hvt : validP (sbs s).length (-1) (ps.map PS.pc) = true := by rw [sbs_len]; exact HV.out
  have hrl : (runC 0 s.size).length = s.size := runC_len 0 s.size
  have hd1 := delP_nn hvt
  have hi := HI.out
  have hi2 := HI2.out
  have l1 : ((patG embC (runC 0 s.size) 0 (ps.map PS.pc)).length : Int) = s.size - delP (ps.map PS.pc) + insP (ps.map PS.pc) := by
    have := patG_len embC (runC 0 s.size) (ps.map PS.pc) 0 (-1) (by rw [hrl]; exact HV.out) (by omega) (by omega) (by omega)
    rw [hrl] at this
    omega
  have hcc := comp_cells (sbs s) (ps.map PS.pc)
  rw [sbs_len] at hcc
  have hcl1 : (patG embC (cellsOf (sbs s)) 0 (ps.map PS.pc)).length = (patG embC (runC 0 s.size) 0 (ps.map PS.pc)).length := by rw [hcc, List.length_map]
  have hfm := hst.pchg.valid hst.room.dok hst.room.sok (length := s.size) (-1)
  rw [HV.out] at hfm
  have hfm2 := hst.pchg'.valid hst.room.dok hst.room.sok (length := ((patG embC (runC 0 s.size) 0 (ps.map PS.pc)).length : Int)) (-1)
  rw [HV2.out] at hfm2
  have CL := Lib.hid (by
    obtain ⟨sv, hS, _⟩ := hst.room.st
    have := pat_Length_ok hS hst.room.sok s.size (by omega) (by omega) va vcap cs (chgs_of_rg hst.chgs) (by omega) hst.pchg.known hfm (by rw [hst.pchg.del, hst.pchg.ins hst.room.dok hst.room.sok]; omega)
    rw [hst.pchg.del, hst.pchg.ins hst.room.dok hst.room.sok, ← l1] at this
    exact this)
  have CK := Lib.hid (fun W (hW : Fr0 w4 W) => by
    obtain ⟨sv, hS, _⟩ := hst.room.st
    exact pat_Check_form (hS.kept0 hW) ((patG embC (runC 0 s.size) 0 (ps.map PS.pc)).length : Int) (by omega) (by omega) vb vcap' ds ((chgs_of_rg hst.chgs').kept0 hW) (by omega) (fun c hc => (hst.pchg'.known c hc).1) hfm2)
  have CX := Lib.hid (pat_Compose_err2 (s.size : Int) _ 0 (.slice va cs.length vcap) (.slice vb ds.length vcap') 4 CL.out (fun W hW => pat_Length_err _ (.slice vb ds.length vcap') 4 (CK.out W hW)))
  have CV := Lib.hid (fun W (hW : Fr0 w4 W) => ref37_Valid (cap := cap1) (hst.args.kept0 hW) (by omega) s.size (by omega) (by omega) true HV.out)
  have CC := Lib.hid (fun W => ref37_Cells s W (by omega))
  have CA := Lib.hid (fun W (hW : Fr0 w4 W) tv w1 (hT : OwnG clv 149 2 w1 W tv (cellsOf (sbs s))) => ref37_Apply (pcap := cap1) tv (cellsOf (sbs s)) (owns_low hT.row (Nat.zero_le _)) a ps (hst.args.kept0 hW) (by rw [cellsOf_len]; exact hvt) _ rfl (by rw [hcl1]; omega) (by rw [cellsOf_len, sbs_len]; omega) (by omega))
  have CV2 := Lib.hid (fun W (hW : Fr0 w4 W) => ref37_Valid (cap := cap2) (hst.args'.kept0 hW) (by omega) ((patG embC (cellsOf (sbs s)) 0 (ps.map PS.pc)).length : Int) (by omega) (by omega) false (by rw [hcl1]; exact HV2.out))
  have HFR := Lib.hid hst.fr
  have hul : (patG embC (cellsOf (sbs s)) 0 (ps.map PS.pc)).length ≤ 800 := by omega
  clear hst hcl hcl' hfm hfm2 CK CL HV HV2 HI HI2 HMEM HMEM2 hvt hrl l1 hcc hcl1 hi hi2 hd1
  clear HR2 HF2 HK3 HG3 HO3 HP3 hS4 hK4 g4 hk4 ho4 hp4 CO2 hk3 HA HB
  generalize patG embC (cellsOf (sbs s)) 0 (ps.map PS.pc) = TC at *
  go_wp2_with fail
  refine CX.out.mono ?_
  rintro e w5 ⟨rfl, f5⟩
  go_wp2_with fail
  refine (CV.out _ f5).mono ?_
  rintro e w6 ⟨rfl, f6⟩
  have F6 := f5.trans f6
  clear f5 f6 CX CV
  go_wp2_with fail
  refine (CC.out _).mono ?_
  rintro e w7 ⟨v7, rfl, o7⟩
  have F7 := F6.trans o7.fr
  have CA7 := Lib.hid (CA.out _ F7 _ _ o7)
  clear o7 F6 CA CC
  go_wp2_with fail
  refine CA7.out.mono ?_
  rintro e w8 ⟨v8, rfl, o8⟩
  obtain ⟨a8, c8, rfl⟩ := o8.form
  have F8 := F7.trans o8.fr
  clear o8 F7 CA7
  go_wp2_with fail
  refine (CV2.out _ F8).mono ?_
  rintro e w9 ⟨rfl, f9⟩
  have F9 := HFR.out.trans (F8.trans f9)
  clear F8 f9 CV2
  go_wp2_with (go_at_call 20; refine (base_Is 4 _ (by omega)).mono ?_; rintro e w' ⟨rfl, rfl⟩)
  go_ret
  exact ⟨rfl, F9⟩

set_option maxRecDepth 100000 in
set_option maxHeartbeats 4000000 in
theorem composes_ok {w : World} (s : ByteArray) {a b : Option Addr} {cap1 cap2 : Nat} {ps qs : List PS} (hA : RG PS.vals 3 w.heap.size w a ps) (hB : RG PS.vals 3 w.heap.size w b qs) (hsm : s.size + costL ps + costL qs ≤ 800) (hv : validP s.size (-1) (ps.map PS.pc) = true) (hv2 : validP (patG embC (runC 0 s.size) 0 (ps.map PS.pc)).length (-1) (qs.map PS.pc) = true) :
    Calls Tryz.prog 4 #[.string s, .slice a ps.length cap1, .slice b qs.length cap2] w fun e w' => e = .returned (.bool true) ∧ Fr0 w w' := by
  have HV := Lib.hid hv
  have HV2 := Lib.hid hv2
  clear hv hv2
  have CS := Lib.hid (law37_Store w)
  have HA := Lib.hid hA
  have HB := Lib.hid hB
  have HSM : Hid (decide (s.size + costs [ps, qs] ≤ 800) = true) := decide_eq_true (by simp only [costs]; omega)
  have HL : Hid (s.size + costs [ps, qs] ≤ 1000000000) := by show _ ≤ _; simp only [costs]; omega
  have hpl := costL_len ps
  have hql := costL_len qs
  have HMEM := Lib.hid (costL_mem ps)
  have HMEM2 := Lib.hid (costL_mem qs)
  have HI := Lib.hid (costL_ins ps)
  have HI2 := Lib.hid (costL_ins qs)
  have hs8 : s.size ≤ 800 := by omega
  clear hA hB
  go_enter Tryz.func4, Tryz.ntmps4
  go_wp2_with fail
  refine CS.out.mono ?_
  rintro e w1 ⟨p, mb, L, rfl, hR, hL, hF⟩
  have CM := Lib.hid (law37_small (cap := 2) s (pss_two (cap := cap1) (cap' := cap2) 54 (HA.out.kept0 hF) (HB.out.kept0 hF)) HL.out (by simp) true HSM.out)
  have HR := Lib.hid hR
  have HF := Lib.hid hF
  clear CS hR hF
  go_wp2_with fail
  refine CM.out.mono ?_
  rintro e w2 ⟨rfl, f2⟩
  have hR2 := HR.out.kept0 (((Fr0.refl w1).alloc _).trans f2)
  have hF2 := (HF.out.alloc _).trans f2
  have CO := Lib.hid (law37_To (cap := cap1) (hR2.less (by have := HI.out; omega)) (HA.out.kept0 hF2) (by omega) (fun c hc => by have := HMEM.out c hc; omega))
  have HR2 := Lib.hid hR2
  have HF2 := Lib.hid hF2
  clear CM f2 hR2 hF2 HR HF
  go_wp2_with fail
  refine CO.out.mono ?_
  rintro e w3 ⟨L3, v3, cs, k3, rfl, hS3, hK3, g3, hk3, ho3, hp3⟩
  have hR3 := HR2.out.next (k := 990000) hS3 hK3 g3 (by have := HI.out; omega)
  have hF3 := Kp.all0 HF2.out hK3
  have CO2 := Lib.hid (law37_To (cap := cap2) (hR3.less (by have := HI2.out; omega)) (HB.out.kept0 hF3) (by omega) (fun c hc => by have := HMEM2.out c hc; omega))
  have HK3 := Lib.hid hK3
  have HG3 := Lib.hid g3
  have HO3 := Lib.hid ho3
  have HP3 := Lib.hid hp3
  clear hR3 hF3 hK3 g3 hS3 CO ho3 hp3
  go_wp2_with fail
  refine CO2.out.mono ?_
  rintro e w4 ⟨L4, v4, ds, k4, rfl, hS4, hK4, g4, hk4, ho4, hp4⟩
  obtain ⟨va, vcap, vb, vcap', rfl, rfl, hst⟩ := CoSt.mk' HR2.out hL HF2.out HA.out HB.out (by omega) HK3.out HG3.out hk3 HO3.out HP3.out hS4 hK4 g4 hk4 ho4 hp4
  have hcl := hst.pchg.len
  rw [List.length_map] at hcl
  have hcl' := hst.pchg'.len
  rw [List.length_map] at hcl'
  have hvt : validP (sbs s).length (-1) (ps.map PS.pc) = true := by rw [sbs_len]; exact HV.out
  have hrl : (runC 0 s.size).length = s.size := runC_len 0 s.size
  have hd1 := delP_nn hvt
  have hi := HI.out
  have hi2 := HI2.out
  have l1 : ((patG embC (runC 0 s.size) 0 (ps.map PS.pc)).length : Int) = s.size - delP (ps.map PS.pc) + insP (ps.map PS.pc) := by
    have := patG_len embC (runC 0 s.size) (ps.map PS.pc) 0 (-1) (by rw [hrl]; exact HV.out) (by omega) (by omega) (by omega)
    rw [hrl] at this
    omega
  have hcc := comp_cells (sbs s) (ps.map PS.pc)
  rw [sbs_len] at hcc
  have hcl1 : (patG embC (cellsOf (sbs s)) 0 (ps.map PS.pc)).length = (patG embC (runC 0 s.size) 0 (ps.map PS.pc)).length := by rw [hcc, List.length_map]
  have hd2 := delP_nn HV2.out
  have l2 : ((patG embC (patG embC (runC 0 s.size) 0 (ps.map PS.pc)) 0 (qs.map PS.pc)).length : Int) = (patG embC (runC 0 s.size) 0 (ps.map PS.pc)).length - delP (qs.map PS.pc) + insP (qs.map PS.pc) := by
    have := patG_len embC (patG embC (runC 0 s.size) 0 (ps.map PS.pc)) (qs.map PS.pc) 0 (-1) HV2.out (by omega) (by omega) (by omega)
    omega
  have hlaw := comp_law (t := sbs s) hvt (by rw [sbs_len]; exact HV2.out) (pcs_rng ps) (pcs_rng qs) rfl
  rw [sbs_len] at hlaw
  obtain ⟨w1', w2', w3'⟩ := hlaw
  have hbi := btw_ins_le s.size (patG embC (patG embC (runC 0 s.size) 0 (ps.map PS.pc)) 0 (qs.map PS.pc)) 0 []
  have hbl := btw_len_le s.size (patG embC (patG embC (runC 0 s.size) 0 (ps.map PS.pc)) 0 (qs.map PS.pc)) 0 []
  rw [List.length_nil] at hbi
  have hmp : ∀ c ∈ ps.map PS.pc, c.text.length ≤ 800 := by
    intro c hc
    obtain ⟨d, hd, rfl⟩ := List.mem_map.1 hc
    have := HMEM.out d hd
    show (sbs d.s).length ≤ _
    rw [sbs_len]; omega
  have hmq : ∀ c ∈ qs.map PS.pc, c.text.length ≤ 800 := by
    intro c hc
    obtain ⟨d, hd, rfl⟩ := List.mem_map.1 hc
    have := HMEM2.out d hd
    show (sbs d.s).length ≤ _
    rw [sbs_len]; omega
  have hcost : (3 * (ps.map PS.pc).length + 3 * (qs.map PS.pc).length + 4) * (14 * 13 + 2) ≤ 2404 * 184 := mul_room (by rw [List.length_map, List.length_map]; omega) (by omega)
  have CX := Lib.hid (pat_Compose_ok (pcap := vcap) (qcap := vcap') 800 13 s.size (hst.room.less (by omega)) (by omega) hst.chgs hst.pchg hst.chgs' hst.pchg' (by rw [List.length_map, List.length_map]; omega) HV.out (by omega) HV2.out (by omega) hmp hmq (by rw [lst14]; omega) rfl (by rw [lst14]; omega) (by omega))
  have CR := Lib.hid (fun W (h1 : RG PS.vals 3 w.heap.size W a ps) (h2 : RG PS.vals 3 w.heap.size W b qs) => ref37_Compose (pcap := cap1) (qcap := cap2) s.size h1 h2 (by omega) (by omega) (by omega) HV.out rfl (by omega) HV2.out rfl (by omega))
  have CV := Lib.hid (fun W (h1 : RG PS.vals 3 w.heap.size W a ps) => ref37_Valid (cap := cap1) h1 (by omega) s.size (by omega) (by omega) true HV.out)
  have CC := Lib.hid (fun W => ref37_Cells s W (by omega))
  have CA := Lib.hid (fun W (h1 : RG PS.vals 3 w.heap.size W a ps) tv w1 (hT : OwnG clv 149 2 w1 W tv (cellsOf (sbs s))) => ref37_Apply (pcap := cap1) tv (cellsOf (sbs s)) (owns_low hT.row (Nat.zero_le _)) a ps h1 (by rw [cellsOf_len]; exact hvt) _ rfl (by rw [hcl1]; omega) (by rw [cellsOf_len, sbs_len]; omega) (by omega))
  have CV2 := Lib.hid (fun W (h2 : RG PS.vals 3 w.heap.size W b qs) => ref37_Valid (cap := cap2) h2 (by omega) ((patG embC (cellsOf (sbs s)) 0 (ps.map PS.pc)).length : Int) (by omega) (by omega) true (by rw [hcl1]; exact HV2.out))
  have l3 : ((patG embC (patG embC (cellsOf (sbs s)) 0 (ps.map PS.pc)) 0 (qs.map PS.pc)).length : Int) = (patG embC (cellsOf (sbs s)) 0 (ps.map PS.pc)).length - delP (qs.map PS.pc) + insP (qs.map PS.pc) := by
    have := patG_len embC (patG embC (cellsOf (sbs s)) 0 (ps.map PS.pc)) (qs.map PS.pc) 0 (-1) (by rw [hcl1]; exact HV2.out) (by omega) (by omega) (by omega)
    omega
  have CA2 := Lib.hid (fun W (h2 : RG PS.vals 3 w.heap.size W b qs) tv w1 (hT : OwnG clv 149 2 w1 W tv (patG embC (cellsOf (sbs s)) 0 (ps.map PS.pc))) => ref37_Apply (pcap := cap2) tv _ (owns_low hT.row (Nat.zero_le _)) b qs h2 (by rw [hcl1]; exact HV2.out) _ rfl (by omega) (by omega) (by omega))
  have hti : ∀ c ∈ btw s.size 0 [] (patG embC (patG embC (runC 0 s.size) 0 (ps.map PS.pc)) 0 (qs.map PS.pc)), c.text.length ≤ 4096 := fun c hc => by
    have := insP_mem _ c hc
    omega
  have hid := pc_ps_id w2'
  have l4 : ((patG embC (cellsOf (sbs s)) 0 (btw s.size 0 [] (patG embC (patG embC (runC 0 s.size) 0 (ps.map PS.pc)) 0 (qs.map PS.pc)))).length : Int) = (patG embC (patG embC (cellsOf (sbs s)) 0 (ps.map PS.pc)) 0 (qs.map PS.pc)).length := by
    have := congrArg List.length w3'
    rw [List.length_map, List.length_map] at this
    omega
  have CA3 := Lib.hid (fun W ra rcap (hr : RG PS.vals 3 0 W ra ((btw s.size 0 [] (patG embC (patG embC (runC 0 s.size) 0 (ps.map PS.pc)) 0 (qs.map PS.pc))).map PC.ps)) tv w1 (hT : OwnG clv 149 2 w1 W tv (cellsOf (sbs s))) => ref37_Apply (pcap := rcap) tv (cellsOf (sbs s)) (owns_low hT.row (Nat.zero_le _)) ra _ hr (by rw [hid, cellsOf_len, sbs_len]; exact w1') _ rfl (by rw [hid]; omega) (by rw [cellsOf_len, sbs_len]; omega) (by rw [List.length_map]; omega))
  rw [hid] at CA3
  have CT1 := Lib.hid (fun W w1 ra (n : Nat) rcap (hT : OwnG clv 149 2 w1 W (.slice ra n rcap) (patG embC (cellsOf (sbs s)) 0 (btw s.size 0 [] (patG embC (patG embC (runC 0 s.size) 0 (ps.map PS.pc)) 0 (qs.map PS.pc))))) => ref37_Text (cap := rcap) (hT.read (fun _ _ => rfl) 0 (by decide) (by decide)) (by omega))
  rw [w3'] at CT1
  have CT2 := Lib.hid (fun W w1 ra (n : Nat) rcap (hT : OwnG clv 149 2 w1 W (.slice ra n rcap) (patG embC (patG embC (cellsOf (sbs s)) 0 (ps.map PS.pc)) 0 (qs.map PS.pc))) => ref37_Text (cap := rcap) (hT.read (fun _ _ => rfl) 0 (by decide) (by decide)) (by omega))
  have HST := Lib.hid hst
  have HW3 := Lib.hid w3'
  have HTI := Lib.hid hti
  have hq1 : (btw s.size 0 [] (patG embC (patG embC (runC 0 s.size) 0 (ps.map PS.pc)) 0 (qs.map PS.pc))).length ≤ 1000 := by omega
  have hq2 : (patG embC (cellsOf (sbs s)) 0 (ps.map PS.pc)).length ≤ 1000 := by omega
  have hq3 : (patG embC (patG embC (cellsOf (sbs s)) 0 (ps.map PS.pc)) 0 (qs.map PS.pc)).length ≤ 1000 := by omega
  have hq4 : (patG embC (cellsOf (sbs s)) 0 (btw s.size 0 [] (patG embC (patG embC (runC 0 s.size) 0 (ps.map PS.pc)) 0 (qs.map PS.pc)))).length ≤ 1000 := by omega
  have HN : Hid ((3 * (ps.map PS.pc).length + 3 * (qs.map PS.pc).length + 4) * (14 * 13 + 2) ≤ 442336) := by show _ ≤ _; omega
  clear hst hcl hcl' HV HV2 HI HI2 HMEM HMEM2 hvt hrl l1 hcc hcl1 hi hi2 hd1 hd2 l2 w1' w2' w3' hbi hbl hmp hmq hcost l3 hid l4 hti
  clear HR2 HF2 HK3 HG3 HO3 HP3 hS4 hK4 g4 hk4 ho4 hp4 CO2 hk3 HA HB
  generalize (3 * (ps.map PS.pc).length + 3 * (qs.map PS.pc).length + 4) * (14 * 13 + 2) = NN at *
  generalize patG embC (cellsOf (sbs s)) 0 (btw s.size 0 [] (patG embC (patG embC (runC 0 s.size) 0 (ps.map PS.pc)) 0 (qs.map PS.pc))) = TX at *
  generalize btw s.size 0 [] (patG embC (patG embC (runC 0 s.size) 0 (ps.map PS.pc)) 0 (qs.map PS.pc)) = RES at *
  generalize patG embC (patG embC (cellsOf (sbs s)) 0 (ps.map PS.pc)) 0 (qs.map PS.pc) = TQ at *
  generalize strOfNums (TQ.map Prod.fst) = STR at *
  generalize patG embC (cellsOf (sbs s)) 0 (ps.map PS.pc) = TC at *
  go_wp2_with fail
  refine CX.out.mono ?_
  rintro e w5 ⟨L5, v5, es, k5, rfl, hS5, hK5, g5, hk5, ho5, hp5⟩
  obtain ⟨ea, ecap, rfl, hrg5⟩ := rg_of_own (vals := Chg.vals) (size := 3) (B := w.heap.size) (fun c _ => rfl) ho5 (by decide) (by decide)
  have hel := hp5.len
  have hR5 := HST.out.room.next (k := 500000) hS5 hK5 g5 (by have := HN.out; omega)
  have hbig : L5.length ≤ 1000000 := by have := hR5.big; omega
  have ha5 := HST.out.args.keptK hK5
  have ha5' := HST.out.args'.keptK hK5
  have hF5 := Kp.all0 HST.out.fr hK5
  have CF := Lib.hid (fun W (hW : Fr0 w5 W) => law37_From (cap := ecap) (hR5.st.kept0 hW) hR5.sok hR5.dok hbig (hrg5.kept0 hW) hp5 (by omega) HTI.out)
  have HF5 := Lib.hid hF5
  have HA5 := Lib.hid ha5
  have HB5 := Lib.hid ha5'
  clear hS5 hK5 g5 hk5 ho5 hrg5 hel hR5 ha5 ha5' hp5 hF5 HTI HN CX HST hbig
  go_wp2_with fail
  refine (CV.out _ HA5.out).mono ?_
  rintro e w6 ⟨rfl, f6⟩
  have F6 := Lib.hid f6
  clear f6 CV
  go_wp2_with fail
  refine (CC.out _).mono ?_
  rintro e w7 ⟨v7, rfl, o7⟩
  have F7 := Lib.hid (F6.out.trans o7.fr)
  have CA7 := Lib.hid (CA.out _ (HA5.out.kept0 F7.out) _ _ o7)
  clear o7 F6 CA
  go_wp2_with fail
  refine CA7.out.mono ?_
  rintro e w8 ⟨v8, rfl, o8⟩
  obtain ⟨a8, c8, rfl⟩ := o8.form
  have F8 := Lib.hid (F7.out.trans o8.fr)
  have HO8 := Lib.hid o8
  clear o8 F7 CA7
  go_wp2_with fail
  refine (CV2.out _ (HB5.out.kept0 F8.out)).mono ?_
  rintro e w9 ⟨rfl, f9⟩
  have F9 := Lib.hid (F8.out.trans f9)
  have HO9 := Lib.hid (HO8.out.kept0 f9)
  clear f9 F8 CV2 HO8
  go_wp2_with fail
  refine (CF.out _ F9.out).mono ?_
  rintro e w10 ⟨v10, rfl, o10⟩
  have F10 := Lib.hid (F9.out.trans o10.fr)
  have HO10 := Lib.hid (HO9.out.kept0 o10.fr)
  obtain ⟨a10, c10, rfl⟩ := o10.form
  have HG10 := Lib.hid (o10.read (fun _ _ => rfl) 0 (by decide) (by decide))
  clear o10 F9 CF HO9
  go_wp2_with fail
  refine (CR.out _ (HA5.out.kept0 F10.out) (HB5.out.kept0 F10.out)).mono ?_
  rintro e w11 ⟨v11, rfl, o11⟩
  have F11 := Lib.hid (F10.out.trans o11.fr)
  have HO11 := Lib.hid (HO10.out.kept0 o11.fr)
  obtain ⟨a11, c11, rfl⟩ := o11.form
  have HG11 := Lib.hid (o11.read (fun _ _ => rfl) 0 (by decide) (by decide))
  have CS := Lib.hid (ref37_Same (cap := c10) (cap' := c11) (HG10.out.kept0 o11.fr) HG11.out (by rw [List.length_map]; omega))
  simp only [List.length_map] at CS
  clear o11 F10 CR HO10 HG10
  go_wp2_with fail
  (with_reducible refine CS.out.mono ?_)
  rintro e w12 ⟨rfl, f12⟩
  have F12 := Lib.hid (F11.out.trans f12)
  have HO12 := Lib.hid (HO11.out.kept0 f12)
  have HG12 := Lib.hid (HG11.out.kept0 f12)
  clear f12 F11 CS HO11 HG11
  go_wp2_with fail
  refine (CC.out _).mono ?_
  rintro e w13 ⟨v13, rfl, o13⟩
  have F13 := Lib.hid (F12.out.trans o13.fr)
  have HO13 := Lib.hid (HO12.out.kept0 o13.fr)
  have CA13 := Lib.hid (CA3.out _ _ c11 (HG12.out.kept0 o13.fr) _ _ o13)
  simp only [List.length_map] at CA13
  clear o13 F12 HO12 HG12 CA3 CC
  go_wp2_with fail
  (with_reducible refine CA13.out.mono ?_)
  rintro e w14 ⟨v14, rfl, o14⟩
  have F14 := Lib.hid (F13.out.trans o14.fr)
  have HO14 := Lib.hid (HO13.out.kept0 o14.fr)
  obtain ⟨a14, c14, rfl⟩ := o14.form
  have CT14 := Lib.hid (CT1.out _ _ _ _ _ o14)
  clear o14 F13 HO13 CA13 CT1
  go_wp2_with fail
  refine CT14.out.mono ?_
  rintro e w15 ⟨rfl, f15⟩
  have F15 := Lib.hid (F14.out.trans f15)
  have CA15 := Lib.hid (CA2.out _ (HB5.out.kept0 F15.out) _ _ (HO14.out.kept0 f15))
  clear f15 F14 HO14 CT14 CA2
  go_wp2_with fail
  refine CA15.out.mono ?_
  rintro e w16 ⟨v16, rfl, o16⟩
  have F16 := Lib.hid (F15.out.trans o16.fr)
  obtain ⟨a16, c16, rfl⟩ := o16.form
  have CT16 := Lib.hid (CT2.out _ _ _ _ _ o16)
  clear o16 F15 CA15 CT2
  go_wp2_with fail
  refine CT16.out.mono ?_
  rintro e w17 ⟨rfl, f17⟩
  have F17 := Lib.hid (HF5.out.trans (F16.out.trans f17))
  clear f17 F16 CT16
  go_wp2_with fail
  go_ret
  exact ⟨rfl, F17.out⟩

theorem composes_walk {w : World} (s : ByteArray) {a b : Option Addr} {cap1 cap2 : Nat} {ps qs : List PS} (hA : RG PS.vals 3 w.heap.size w a ps) (hB : RG PS.vals 3 w.heap.size w b qs) (hl : s.size + costL ps + costL qs ≤ 1000000000) :
    Calls Tryz.prog 4 #[.string s, .slice a ps.length cap1, .slice b qs.length cap2] w fun e w' => e = .returned (.bool true) ∧ Fr0 w w' := by
  by_cases hsm : s.size + costL ps + costL qs ≤ 800
  · cases hv : validP s.size (-1) (ps.map PS.pc) with
    | true =>
      cases hv2 : validP (patG embC (runC 0 s.size) 0 (ps.map PS.pc)).length (-1) (qs.map PS.pc) with
      | true => exact composes_ok s hA hB hsm hv hv2
      | false => exact composes_bad2 s hA hB hsm hv hv2
    | false => exact composes_bad s hA hB hsm hv
  · exact composes_long s hA hB hl hsm

end Go.Proofs.YtclpndigmidjkaaGreat

/- The walk of PatchEdits. -/
import Derived.Test.YtclpndigmidjkaaGreatQPe2
import Derived.Test.YtclpndigmidjkaaGreatQPe3
import Derived.Test.YtclpndigmidjkaaGreatQBtw1
import Derived.Test.YtclpndigmidjkaaGreatQAp0
import Derived.Deep.OwnRows
set_option linter.unusedSimpArgs false
set_option linter.unusedVariables false
namespace Go.Proofs.YtclpndigmidjkaaGreat
open Go.RowKit

/-- An edit with a string. -/
structure ES where
  kind : Int
  at_ : Int
  n : Int
  to_ : Int
  s : ByteArray

def ES.vals (e : ES) : List Value := [.int .i64 e.kind, .int .i64 e.at_, .int .i64 e.n, .int .i64 e.to_, .string e.s]
def ES.cut (e : ES) : ByteArray := e.s.extract 0 (min e.s.size 20)
def ES.ep (e : ES) : EP := ⟨e.kind, e.at_, e.n, e.to_, sbs e.cut⟩

theorem ES.cut_size (e : ES) : e.cut.size = min e.s.size 20 := by
  unfold ES.cut
  rw [ByteArray.size_extract]
  omega
theorem ES.ep_len (e : ES) : e.ep.text.length ≤ 20 := by
  show (sbs e.cut).length ≤ 20
  rw [sbs_len, ES.cut_size]
  omega

theorem info_edit : (Tryz.prog.info? 78).map (fun i => (i.zero, i.size, i.bytes)) = some (some (.agg #[.int .i64 0, .int .i64 0, .int .i64 0, .int .i64 0, .int .i64 0]), 5, 40) := by kernel_rfl
theorem rt_edit : RT 71 78 5 40 := by
  obtain ⟨i, h1, h2, h3, h4⟩ := info_parts info_edit
  exact ⟨by omega, i, _, Tryz.underlying71, h1, h2, h3, h4, rfl⟩

/-- A text of zero bytes. -/
def zt (n : Nat) : List Int := List.replicate n 0
theorem zt_len (n : Nat) : (zt n).length = n := by simp [zt]
theorem zt_rng (n : Nat) : ∀ x ∈ zt n, 0 ≤ x ∧ x < 256 := by
  intro x hx
  have := List.eq_of_mem_replicate hx
  omega
theorem sbs_zt (n : Nat) : sbs (strOfNums (zt n)) = zt n := sbs_str (zt_rng n)
theorem zt_size (n : Nat) : (strOfNums (zt n)).size = n := by rw [str_len, zt_len]

theorem made_at (n i : Nat) (h : i < n) : (madeCells #[Value.int .u8 0] n)[i]? = some (.int .u8 0) := by
  simp [madeCells, h, Nat.mod_one]

theorem conv_zt (w : World) (n : Nat) : (convert 72 9 (.slice (some ⟨w.heap.size, 0, none⟩) n n)).run Tryz.prog (w.alloc (.cells (madeCells #[Value.int .u8 0] n) 5 (0, 0))) = .ok (.string (strOfNums (zt n))) (w.alloc (.cells (madeCells #[Value.int .u8 0] n) 5 (0, 0))) := by
  refine run_convert_bytes_arg _ 72 5 Tryz.underlying72 Tryz.underlying5 w.heap.size 0 n n (zt n) (zt_len n) ?_ 9 Tryz.underlying9
  intro i hi
  rw [cell_of_block (alloc_at w _ _ rfl), Nat.zero_add, made_at n i hi]
  congr 2
  rw [List.getD_eq_getElem?_getD]
  simp [zt, hi]

theorem run_next (T0 : List (Int × Int)) (qs : List EP) (p : EP) (h0 : (runS T0 qs).2 = 0) : runS T0 (qs ++ [p]) = (patG embC (runS T0 qs).1 0 (if p.code (runS T0 qs).1.length = 0 then p.chg else []), p.code (runS T0 qs).1.length) := by
  have e : runS T0 (qs ++ [p]) = stS (runS T0 qs) p := by unfold runS; rw [List.foldl_append]; rfl
  rw [e]
  unfold stS
  rw [if_neg (by rw [h0]; simp)]
  split
  · next h => rw [h]
  · simp [patG]
theorem run_stay (T0 : List (Int × Int)) (qs : List EP) (p : EP) (h0 : (runS T0 qs).2 ≠ 0) : runS T0 (qs ++ [p]) = runS T0 qs := by
  have e : runS T0 (qs ++ [p]) = stS (runS T0 qs) p := by unfold runS; rw [List.foldl_append]; rfl
  rw [e]
  unfold stS
  rw [if_pos h0]
theorem next_valid (p : EP) (len : Int) : validP len (-1) (if p.code len = 0 then p.chg else []) = true := by
  split
  · next h => exact EP.chg_valid h
  · rfl

/-- The letters in the law's cells. -/
def cellR (n : Nat) (qs : List EP) : List (Int × Int) := (runS (runC 0 n) qs).1.map (fillC (zt n))

theorem cellR_len (n : Nat) (qs : List EP) : (cellR n qs).length = (runS (runC 0 n) qs).1.length := by unfold cellR; rw [List.length_map]
theorem cellR_next (n : Nat) (qs : List EP) (p : EP) (h0 : (runS (runC 0 n) qs).2 = 0) : cellR n (qs ++ [p]) = patG embC (cellR n qs) 0 (if p.code (cellR n qs).length = 0 then p.chg else []) := by
  rw [cellR_len]
  unfold cellR
  rw [run_next _ _ _ h0, patG_map (fillC (zt n)) embC embC (fillC_emb _)]
theorem cellR_stay (n : Nat) (qs : List EP) (p : EP) (h0 : (runS (runC 0 n) qs).2 ≠ 0) : cellR n (qs ++ [p]) = cellR n qs := by
  unfold cellR
  rw [run_stay _ _ _ h0]
theorem cellR_btw (n : Nat) (qs : List EP) : btw n 0 [] (cellR n qs) = btw n 0 [] (runS (runC 0 n) qs).1 := btw_map n (fillC (zt n)) (fillC_2 _) (fillC_neg _) _ _ _
theorem cellR_le (n : Nat) (qs : List EP) : ∀ c ∈ cellR n qs, c.2 ≤ (n : Int) := by
  intro c hc
  obtain ⟨d, hd, rfl⟩ := List.mem_map.1 hc
  rw [fillC_2]
  exact (runS_mem n qs).1.le (by omega) d hd
theorem ep_map_len (ps : List ES) (M : Nat) (h : ps.length ≤ M) : insE (ps.map ES.ep) ≤ 20 * M := by
  have h1 := insE_le (ps.map ES.ep) 20 (fun p hp => by
    obtain ⟨e, _, rfl⟩ := List.mem_map.1 hp
    exact e.ep_len)
  rw [List.length_map] at h1
  omega

/-- The state of the law's loop. -/
structure PeR (w w1 wr : World) (p mb : Nat) (L : List Ent) (n : Nat) (ps : List ES) (k : Nat) (ev cv : Value) (code : Int) (L' : List Ent) (es : List Edt) : Prop where
  st : Sto w.heap.size wr p mb 1048576 L'
  kp : Kp w.heap.size mb w1 wr
  grows : Grows L L' (40 * k)
  ev : wr.ownsRow w1.heap.size 78 5 ev es.length (es.flatMap Edt.vals)
  cl : wr.ownsRow w1.heap.size 149 2 cv (cellR n ((ps.take k).map ES.ep)).length ((cellR n ((ps.take k).map ES.ep)).flatMap clv)
  pe : PEd L' es ((ps.take k).map ES.ep)
  code : code = (runS (runC 0 n) ((ps.take k).map ES.ep)).2

set_option maxRecDepth 100000 in
set_option maxHeartbeats 4000000 in
theorem edits_long {w : World} (n : Nat) (hn : n < 256) {a : Option Addr} {cap len : Nat} (hl : 12 < len) :
    Calls Tryz.prog 5 #[.int .u8 n, .slice a len cap] w fun e w' => e = .returned (.bool true) ∧ Fr0 w w' := by
  have CS := Lib.hid (law37_Store w)
  have q0 : decide (12 < len) = true := decide_eq_true hl
  have q1 : decide ((12 : Int) < (len : Int)) = true := decide_eq_true (by omega)
  go_enter Tryz.func5, Tryz.ntmps5
  go_wp2_with fail
  refine CS.out.mono ?_
  rintro e w1 ⟨p, mb, L, rfl, hR, hL, hF⟩
  go_wp2_with fail
  go_ret
  exact ⟨rfl, hF⟩

set_option maxRecDepth 100000 in
set_option maxHeartbeats 4000000 in
theorem edits_short {w : World} (n : Nat) (hn : n < 256) {a : Option Addr} {cap : Nat} {ps : List ES} (hA : RG ES.vals 5 w.heap.size w a ps) (hl : ps.length ≤ 12) :
    Calls Tryz.prog 5 #[.int .u8 n, .slice a ps.length cap] w fun e w' => e = .returned (.bool true) ∧ Fr0 w w' := by
  have CS := Lib.hid (law37_Store w)
  have HA := Lib.hid hA
  have hmk := run_make_row' (P := Tryz.prog) 72 5 (.int .u8 0) 1 Tryz.underlying72 info_byte' rfl .u8 .u8 n (by omega) (by omega)
  have q0 : decide (12 < ps.length) = false := decide_eq_false (by omega)
  have q1 : decide ((12 : Int) < (ps.length : Int)) = false := decide_eq_false (by omega)
  clear hA
  go_enter Tryz.func5, Tryz.ntmps5
  go_wp2_with fail
  refine CS.out.mono ?_
  rintro e w1 ⟨p, mb, L, rfl, hR, hL, hF⟩
  have hcv := conv_zt w1 n
  have CC := Lib.hid (fun W => ref37_Cells (strOfNums (zt n)) W (by rw [zt_size]; omega))
  rw [sbs_zt] at CC
  have HR := Lib.hid hR
  have HF := Lib.hid hF
  clear CS hR hF
  go_wp2_with fail
  refine (CC.out _).mono ?_
  rintro e w2 ⟨v2, rfl, o2⟩
  have hfil : (runC 0 n).map (fillC (zt n)) = cellsOf (zt n) := by
    have := fill_run (zt n)
    rw [zt_len] at this
    exact this
  have hP0 : PeR w w1 w2 p mb L n ps 0 (.slice none 0 0) v2 0 L [] := by
    refine ⟨HR.out.st.kept0 (((Fr0.refl w1).alloc _).trans o2.fr), Kp.of0 (((Fr0.refl w1).alloc _).trans o2.fr), (Grows.refl HR.out.sok HR.out.dok).le (by omega), World.ownsRow_nil _ _ _ _, ?_, trivial, rfl⟩
    show w2.ownsRow w1.heap.size 149 2 v2 ((runC 0 n).map (fillC (zt n))).length (((runC 0 n).map (fillC (zt n))).flatMap clv)
    rw [hfil]
    exact owns_low o2.row (Fr.size ((Fr0.refl w1).alloc _))
  have HP0 := Lib.hid hP0
  clear hP0 o2 CC hfil hcv hmk
  go_wp2_with fail
  go_loopw [7, 8, 9, 36] (fun ev cv dv i wr => ∃ (k : Nat) (code : Int) (L' : List Ent) (es : List Edt), k ≤ ps.length ∧ i = .int .i64 k ∧ dv = .int .i64 code ∧ PeR w w1 wr p mb L n ps k ev cv code L' es) (fun _ _ _ i _ => ps.length - (intOf i).toNat)
  case atStart => exact ⟨0, 0, L, [], Nat.zero_le _, rfl, rfl, HP0.out⟩
  case round =>
    clear HP0
    obtain ⟨k, code, L', es, hk, rfl, rfl, hr⟩ := hrel
    by_cases hlt : k < ps.length
    · obtain ⟨b, off, rfl, lbk, _, hc⟩ := ((HA.out.kept0 HF.out).keptK hr.kp) k hlt
      have c0 := hc 0 _ rfl
      have c1 := hc 1 _ rfl
      have c2 := hc 2 _ rfl
      have c3 := hc 3 _ rfl
      have c4 := hc 4 _ rfl
      rw [Nat.add_zero] at c0
      have HRR := Lib.hid hr
      have HTK : Hid ((ps.take (k + 1)).map ES.ep = (ps.take k).map ES.ep ++ [ps[k].ep]) := by show _ = _; rw [List.take_succ_eq_append_getElem hlt, List.map_append]; rfl
      clear hc hr HA
      generalize hxx : ps[k] = x at *
      clear hxx
      have hroom := HR.out.next (k := 40) HRR.out.st HRR.out.kp HRR.out.grows (by omega)
      have hcl := HRR.out.cl
      have hcode := HRR.out.code
      have hcn : (cellR n ((ps.take k).map ES.ep)).length ≤ 600 := by
        have h1 := (runS_mem n ((ps.take k).map ES.ep)).2
        have h2 := ep_map_len (ps.take k) 12 (by rw [List.length_take]; omega)
        rw [cellR_len]
        omega
      have hel : es.length ≤ 1000000 := by
        have := HRR.out.pe.len
        rw [List.length_map, List.length_take] at this
        omega
      have hN0 : Hid (code = 0 → cellR n ((ps.take (k + 1)).map ES.ep) = patG embC (cellR n ((ps.take k).map ES.ep)) 0 (if x.ep.code (cellR n ((ps.take k).map ES.ep)).length = 0 then x.ep.chg else []) ∧ (runS (runC 0 n) ((ps.take (k + 1)).map ES.ep)).2 = x.ep.code (cellR n ((ps.take k).map ES.ep)).length) := by
        intro h0
        rw [hcode] at h0
        rw [HTK.out, cellR_next _ _ _ h0, run_next _ _ _ h0, cellR_len]
        exact ⟨rfl, rfl⟩
      have hN1 : Hid (code ≠ 0 → cellR n ((ps.take (k + 1)).map ES.ep) = cellR n ((ps.take k).map ES.ep) ∧ (runS (runC 0 n) ((ps.take (k + 1)).map ES.ep)).2 = code) := by
        intro h0
        rw [hcode] at h0
        rw [HTK.out, cellR_stay _ _ _ h0, run_stay _ _ _ h0, hcode]
        exact ⟨rfl, rfl⟩
      have hxl := x.ep_len
      have hcut : x.s.extract 0 (min (x.s.size : Int) 20).toNat = x.cut := by
        unfold ES.cut
        congr 1
        omega
      have hcs : x.cut.size ≤ 20 := by rw [ES.cut_size]; omega
      have HCUT := Lib.hid hcut
      have HROOM := Lib.hid hroom
      have HXE : Hid (x.ep = ⟨x.kind, x.at_, x.n, x.to_, sbs x.cut⟩) := rfl
      obtain ⟨ca, ccap0, rfl⟩ := owns_form hcl
      have HCL := Lib.hid hcl
      have HCODE := Lib.hid hcode
      clear hcode hcut hroom hcl hxl
      generalize hFF : cellR n ((ps.take k).map ES.ep) = F at *
      have HFF := Lib.hid hFF
      clear hFF
      have m1 : (0 : Int) ≤ min (x.s.size : Int) 20 := by omega
      have m2 : min (x.s.size : Int) 20 ≤ (x.s.size : Int) := by omega
      obtain ⟨ccap, cf, hconv, hcap1, hcap2⟩ := conv_bytes (wr.alloc (.cells #[.int .i64 x.kind, .int .i64 x.at_, .int .i64 x.n, .int .i64 x.to_, .string x.cut] 74 (0, 0))) x.cut
      rw [← HCUT.out] at hconv
      go_wp2_with fail
      rw [HCUT.out]
      have hcap3 := hcap2 (by unfold maxLen; omega)
      unfold maxLen at hcap3
      have hF : Fr0 wr ((wr.alloc (.cells #[.int .i64 x.kind, .int .i64 x.at_, .int .i64 x.n, .int .i64 x.to_, .string x.cut] 74 (0, 0))).alloc (.cells (bytesRow x.cut ccap) 5 cf)).drew := (((Fr0.refl wr).alloc _).alloc _).drew
      have CT := Lib.hid (sto_TextN (n := (min (x.s.size : Int) 20).toNat) (by rw [sbs_len, ES.cut_size]; omega) ((HROOM.out.less (by omega)).kept0 hF) (wr.heap.size + 1) 0 ccap (bytes_convH _ _ (by simp) x.cut ccap cf) (by omega) (by rw [ES.cut_size] at hcap1; omega) hcap3)
      have HFX := Lib.hid hF
      clear hF hcap2 hconv m1 m2
      have HM20 : Hid ((min (x.s.size : Int) 20).toNat ≤ 20) := by show _ ≤ _; omega
      refine CT.out.mono ?_
      rintro e w3 ⟨L2, z, dz, kz, rfl, hS2, hK2, g2, bz, hz⟩
      have hr3 := hK2.cells wr.heap.size _ _ _ (alloc2_0 wr _ _) (by decide) (by decide)
      obtain ⟨d0, d1, d2, d3, d4, ld⟩ := cells5w hr3
      have hK3 := (HRR.out.kp.trans (Kp.of0 HFX.out)).trans hK2
      have ho3 := hK2.owns (HFX.out.owns HRR.out.ev) (by decide) (by decide)
      have hcl3 := hK2.owns (HFX.out.owns HCL.out) (by decide) (by decide)
      have hbs : w1.heap.size ≤ w3.heap.size := hK3.size
      have HS2 := Lib.hid hS2
      have HG2 := Lib.hid (HRR.out.grows.trans (k := 40 * (k + 1)) g2 (by have := HM20.out; omega))
      have HPE : Hid (PEd L2 (es ++ [⟨x.kind, x.at_, x.n, x.to_, z⟩]) ((ps.take (k + 1)).map ES.ep)) := by
        have h1 := (HRR.out.pe.more g2 HRR.out.grows.dok).snoc (e := ⟨x.kind, x.at_, x.n, x.to_, z⟩) (p := x.ep) ⟨rfl, rfl, rfl, rfl, dz, bz⟩
        rw [← HTK.out] at h1
        exact h1
      have HO3 := Lib.hid ho3
      have HCL3 := Lib.hid hcl3
      have HK3 := Lib.hid hK3
      have HR3 := Lib.hid hr3
      have hnb : u7.ownBlock ≠ some wr.heap.size := fun h => by have := (HRR.out.ev.lt _ h).2; omega
      clear hS2 hK2 g2 bz hz hr3 hcl3 hK3 CT HCUT HFX HROOM HCL HM20
      by_cases hc0 : code = 0
      · have hq := hN0.out hc0
        have HQ := Lib.hid hq
        have hqc : (code == 0) = true := beq_iff_eq.2 hc0
        have CST := Lib.hid (fun W => law37_step W F.length x.kind x.at_ x.n x.to_ x.cut (by omega) (by omega))
        have HPL := Lib.hid (fun len => next_valid x.ep len)
        have HXL := Lib.hid x.ep_len
        clear hc0 hq hN0 hN1 HR
        go_wp2_with (at_builtin; refine wpList_pushG (vals := Edt.vals) rt_edit rfl _ _ rfl w1.heap.size _ es rfl ho3 hbs 78 ⟨x.kind, x.at_, x.n, x.to_, z⟩ #[.int .i64 x.kind, .int .i64 x.at_, .int .i64 x.n, .int .i64 x.to_, .int .i64 z] rfl rfl (by simp [Edt.vals, Value.oneCell']) 1 _ rfl rfl (by omega) hel ?_; intro v' w4 hO4 hg4 hat4; (have hr4 : w4.heap[wr.heap.size]? = _ := (hg4.block _ (by simp; omega) (fun e => hnb e.symm)).trans ((alloc_lt _ _ _ ld).trans HR3.out)); clear d0 d1 d2 d3 d4 ld; obtain ⟨d0, d1, d2, d3, d4, ld⟩ := cells5w hr4; clear hr4)
        have hF4 : Fr (fun j => u7.ownBlock = some j) w3 w4 := Fr.grown ((Fr.refl _ w3).alloc _) hg4 (fun j hj _ => hj)
        have hst4 := HS2.out.push HO3.out (by decide) (by decide) hg4
        have hkp4 := (HK3.out.alloc _).grown hg4 (fun j hj => (HO3.out.lt j hj).1)
        have hcl4 := hF4.owns HCL3.out (by
          intro j hj e
          obtain ⟨y1, e1⟩ := owns_block HCL3.out hj
          obtain ⟨y2, e2⟩ := owns_block HO3.out e
          exact ne_of_types e1 e2 (by decide) rfl)
        have HST4 := Lib.hid hst4
        have HKP4 := Lib.hid hkp4
        have HCL4 := Lib.hid hcl4
        have HEV4 := Lib.hid hO4
        clear hF4 hst4 hkp4 hcl4 hO4 hg4 hat4 HS2 HO3 HK3 HCL3 HR3
        refine (CST.out _).mono ?_
        rintro e w5 ⟨sa, scap, qs, rfl, f5, hq5, hqs, hql⟩
        have hv5 := HPL.out F.length
        have hlen5 := patG_len embC F (if x.ep.code F.length = 0 then x.ep.chg else []) 0 (-1) hv5 (by omega) (by omega) (by omega)
        have hd5 := delP_nn hv5
        have hi5 : insP (if x.ep.code F.length = 0 then x.ep.chg else []) ≤ 20 := by
          have := HXL.out
          split
          · unfold EP.chg
            split
            · simp [insP]
            · simp only [insP]; omega
          · simp [insP]
        have hqs' : qs.map PS.pc = (if x.ep.code F.length = 0 then x.ep.chg else []) := hqs
        rw [← hqs'] at hv5 hlen5 hd5 hi5
        have CAP := Lib.hid (ref37_Apply (pcap := scap) (.slice ca F.length ccap0) F (owns_low (f5.owns HCL4.out) (Nat.zero_le _)) sa qs hq5 hv5 _ rfl (by omega) (by omega) (by omega))
        have HQS := Lib.hid hqs'
        have F5 := Lib.hid f5
        clear f5 hq5 hqs hqs' hv5 hlen5 hd5 hi5 hql CST HPL HXL
        go_wp2_with fail
        refine CAP.out.mono ?_
        rintro e w6 ⟨v6, rfl, o6⟩
        have FF := F5.out.trans o6.fr
        have hX : PeR w w1 w6 p mb L n ps (k + 1) v' v6 (x.ep.code F.length) L2 (es ++ [⟨x.kind, x.at_, x.n, x.to_, z⟩]) := by
          refine ⟨HST4.out.kept0 FF, HKP4.out.trans (Kp.of0 FF), HG2.out, FF.owns HEV4.out, ?_, HPE.out, ?_⟩
          · rw [HQ.out.1, ← HQS.out]
            exact owns_low o6.row (by have h1 := HKP4.out.size; have h2 := Fr.size F5.out; omega)
          · exact HQ.out.2.symm
        have HX := Lib.hid hX
        clear hX FF o6 CAP
        go_wp2_with fail
        go_roundw
        case rel => exact ⟨k + 1, _, L2, _, by omega, by go_num, rfl, HX.out⟩
        case measure => simp [intOf]; omega
      · have hq := hN1.out hc0
        have HQ := Lib.hid hq
        have hqc : (code == 0) = false := beq_eq_false_iff_ne.2 hc0
        clear hc0 hq hN0 hN1 HR
        go_wp2_with (at_builtin; refine wpList_pushG (vals := Edt.vals) rt_edit rfl _ _ rfl w1.heap.size _ es rfl ho3 hbs 78 ⟨x.kind, x.at_, x.n, x.to_, z⟩ #[.int .i64 x.kind, .int .i64 x.at_, .int .i64 x.n, .int .i64 x.to_, .int .i64 z] rfl rfl (by simp [Edt.vals, Value.oneCell']) 1 _ rfl rfl (by omega) hel ?_; intro v' w4 hO4 hg4 hat4; (have hr4 : w4.heap[wr.heap.size]? = _ := (hg4.block _ (by simp; omega) (fun e => hnb e.symm)).trans ((alloc_lt _ _ _ ld).trans HR3.out)); clear d0 d1 d2 d3 d4 ld; obtain ⟨d0, d1, d2, d3, d4, ld⟩ := cells5w hr4; clear hr4)
        have hF4 : Fr (fun j => u7.ownBlock = some j) w3 w4 := Fr.grown ((Fr.refl _ w3).alloc _) hg4 (fun j hj _ => hj)
        have hst4 := HS2.out.push HO3.out (by decide) (by decide) hg4
        have hkp4 := (HK3.out.alloc _).grown hg4 (fun j hj => (HO3.out.lt j hj).1)
        have hcl4 := hF4.owns HCL3.out (by
          intro j hj e
          obtain ⟨y1, e1⟩ := owns_block HCL3.out hj
          obtain ⟨y2, e2⟩ := owns_block HO3.out e
          exact ne_of_types e1 e2 (by decide) rfl)
        have hX : PeR w w1 w4 p mb L n ps (k + 1) v' (.slice ca F.length ccap0) code L2 (es ++ [⟨x.kind, x.at_, x.n, x.to_, z⟩]) := by
          refine ⟨hst4, hkp4, HG2.out, hO4, ?_, HPE.out, ?_⟩
          · rw [HQ.out.1]
            exact hcl4
          · exact HQ.out.2.symm
        have HX := Lib.hid hX
        clear hX hst4 hkp4 hcl4 hO4
        go_roundw
        case rel => exact ⟨k + 1, _, L2, _, by omega, by go_num, rfl, HX.out⟩
        case measure => simp [intOf]; omega
    · have hke : k = ps.length := by omega
      have htk : (ps.take k).map ES.ep = ps.map ES.ep := by rw [List.take_of_length_le (by omega)]
      obtain ⟨ea, ecap, rfl, hrg⟩ := rg_of_own (vals := Edt.vals) (size := 5) (B := w.heap.size) (fun c _ => rfl) hr.ev (by decide) (by decide)
      obtain ⟨ca, ccap0, rfl⟩ := owns_form hr.cl
      have hcl := hr.cl
      have hcode := hr.code
      have hpe := hr.pe
      rw [htk] at hcl hcode hpe
      have hml := (runS_mem n (ps.map ES.ep)).2
      have hil := ep_map_len ps 12 hl
      have hroom := HR.out.next (k := 900000) hr.st hr.kp hr.grows (by omega)
      have hcost : (2 + 4 * (ps.map ES.ep).length) * (14 * 13 + 2) ≤ 50 * 184 := mul_room (by rw [List.length_map]; omega) (by omega)
      have hll : (ps.map ES.ep).length = ps.length := List.length_map _
      have hmm : ∀ c ∈ ps.map ES.ep, c.text.length ≤ 20 := by
        intro c hc
        obtain ⟨d, _, rfl⟩ := List.mem_map.1 hc
        exact d.ep_len
      have COF := pat_Of (ecap := ecap) 20 13 n (hroom.less (by omega)) hrg hpe (by rw [List.length_map]; omega) hmm (by rw [lst14]; omega) (by rw [lst14]; omega) (by omega)
      rw [htk]
      have hcr := cellR_len n (ps.map ES.ep)
      by_cases hc0 : code = 0
      · have hcc : (runS (runC 0 n) (ps.map ES.ep)).2 = 0 := by rw [← hcode]; exact hc0
        have COF2 := Lib.hid (COF.mono (fun e w' h => h.resolve_right (fun h => h.1 hcc) |>.2))
        have hbi := btw_ins_le n (runS (runC 0 n) (ps.map ES.ep)).1 0 []
        have hbl := btw_len_le n (runS (runC 0 n) (ps.map ES.ep)).1 0 []
        rw [List.length_nil] at hbi
        have hti : ∀ c ∈ btw n 0 [] (runS (runC 0 n) (ps.map ES.ep)).1, c.text.length ≤ 4096 := fun c hc => by
          have := insP_mem _ c hc
          omega
        have CBT := Lib.hid (fun (W : World) (h : W.ownsRow w1.heap.size 149 2 (.slice ca (cellR n (ps.map ES.ep)).length ccap0) (cellR n (ps.map ES.ep)).length ((cellR n (ps.map ES.ep)).flatMap clv)) => ref37_Between (cap := ccap0) (owns_read (vals := clv) (size := 2) (B := 0) (fun _ _ => rfl) h (by decide) (by decide)) (by omega) n (by omega) (by omega) (fun c hc => by have := cellR_le n (ps.map ES.ep) c hc; omega) (cellR_btw n (ps.map ES.ep)))
        have HTI := Lib.hid hti
        have HROOM := Lib.hid hroom
        have HCL := Lib.hid hcl
        have HKP := Lib.hid hr.kp
        have qc1 : (code == 0) = true := beq_iff_eq.2 hc0
        have qc2 : (code != 0) = false := by rw [bne, qc1]; rfl
        have hbl2 : (btw n 0 [] (runS (runC 0 n) (ps.map ES.ep)).1).length ≤ 1000 := by omega
        have HNN : Hid ((2 + 4 * (ps.map ES.ep).length) * (14 * 13 + 2) ≤ 9200) := by show _ ≤ _; omega
        clear hr hke htk hrg hcl hcode hpe hml hil hroom hcost hmm COF hcr hc0 hcc hbi hbl hti hll HA
        generalize btw n 0 [] (runS (runC 0 n) (ps.map ES.ep)).1 = RES at *
        generalize cellR n (ps.map ES.ep) = F at *
        generalize (2 + 4 * (ps.map ES.ep).length) * (14 * 13 + 2) = NN at *
        go_wp2_with fail
        refine COF2.out.mono ?_
        rintro e w5 ⟨L5, v5, cs5, k5, rfl, hS5, hK5, g5, hk5, ho5, hp5⟩
        obtain ⟨a5, c5, rfl, hrg5⟩ := rg_of_own (vals := Chg.vals) (size := 3) (B := w.heap.size) (fun c _ => rfl) ho5 (by decide) (by decide)
        have hel5 := hp5.len
        have hR5 := HROOM.out.next (k := 500000) hS5 hK5 g5 (by have := HNN.out; omega)
        have hbig : L5.length ≤ 1000000 := by have := hR5.big; omega
        have CF := Lib.hid (law37_From (cap := c5) hR5.st hR5.sok hR5.dok hbig hrg5 hp5 (by omega) HTI.out)
        have HCL5 := Lib.hid (hK5.owns HCL.out (by decide) (by decide))
        have HF5 := Lib.hid (Kp.all0 HF.out (HKP.out.trans hK5))
        clear hS5 hK5 g5 hk5 ho5 hrg5 hel5 hR5 hbig hp5 COF2 HTI HROOM HCL HKP HNN
        go_wp2_with fail
        refine CF.out.mono ?_
        rintro e w6 ⟨v6, rfl, o6⟩
        obtain ⟨a6, c6, rfl⟩ := o6.form
        have HG6 := Lib.hid (o6.read (fun _ _ => rfl) 0 (by decide) (by decide))
        have F6 := Lib.hid o6.fr
        have CB6 := Lib.hid (CBT.out _ (o6.fr.owns HCL5.out))
        clear o6 CF CBT HCL5
        go_wp2_with fail
        refine CB6.out.mono ?_
        rintro e w7 ⟨v7, rfl, o7⟩
        obtain ⟨a7, c7, rfl⟩ := o7.form
        have CS := Lib.hid (ref37_Same (cap := c6) (cap' := c7) (HG6.out.kept0 o7.fr) (o7.read (fun _ _ => rfl) 0 (by decide) (by decide)) (by rw [List.length_map]; omega))
        simp only [List.length_map] at CS
        have F7 := Lib.hid (HF5.out.trans (F6.out.trans o7.fr))
        clear o7 CB6 HG6 F6
        go_wp2_with fail
        (with_reducible refine CS.out.mono ?_)
        rintro e w8 ⟨rfl, f8⟩
        go_wp2_with fail
        go_ret
        exact ⟨rfl, F7.out.trans f8⟩
      · have hcc : (runS (runC 0 n) (ps.map ES.ep)).2 ≠ 0 := by rw [← hcode]; exact hc0
        have COF2 := COF.mono (fun e w' h => h.resolve_left (fun h => hcc h.1) |>.2)
        rw [← hcode] at COF2
        have COF3 := Lib.hid COF2
        have HFK := Lib.hid (Kp.all0 HF.out hr.kp)
        have qc1 : (code == 0) = false := beq_eq_false_iff_ne.2 hc0
        have qc2 : (code != 0) = true := by rw [bne, qc1]; rfl
        have CN := Lib.hid (fun W => base_Num code W)
        clear hr hke htk hrg hcl hcode hpe hml hil hroom hcost hmm COF COF2 hcr hc0 hcc hll HA
        generalize cellR n (ps.map ES.ep) = F at *
        go_wp2_with fail
        refine COF3.out.mono ?_
        rintro e w5 ⟨rfl, f5⟩
        go_wp2_with fail
        refine (CN.out _).mono ?_
        rintro e w' ⟨rfl, rfl⟩
        go_wp2_with fail
        go_ret
        exact ⟨rfl, HFK.out.trans f5⟩

theorem edits_walk {w : World} (n : Nat) (hn : n < 256) {a : Option Addr} {cap : Nat} {ps : List ES} (hA : RG ES.vals 5 w.heap.size w a ps) :
    Calls Tryz.prog 5 #[.int .u8 n, .slice a ps.length cap] w fun e w' => e = .returned (.bool true) ∧ Fr0 w w' := by
  by_cases hl : ps.length ≤ 12
  · exact edits_short n hn hA hl
  · exact edits_long n hn (by omega)

end Go.Proofs.YtclpndigmidjkaaGreat

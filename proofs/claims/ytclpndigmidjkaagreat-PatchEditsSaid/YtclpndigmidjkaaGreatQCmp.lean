/- The walk of patch.Compose. -/
import Derived.Test.YtclpndigmidjkaaGreatQCol
set_option linter.unusedSimpArgs false
set_option linter.unusedVariables false
namespace Go.Proofs.YtclpndigmidjkaaGreat
open Go.RowKit

set_option maxRecDepth 100000 in
set_option maxHeartbeats 1000000 in
theorem pat_Compose_err {w : World} {p : Nat} (len m : Int) (pv qv : Value) (n : Int) (hK : Calls Tryz.prog 18 #[.pointer (some ⟨p, 0, none⟩), .int .i64 len, pv] w fun e w' => e = .returned (.tuple #[.int .i64 m, .iface 52 (.int .i64 n)]) ∧ Fr0 w w') :
    Calls Tryz.prog 23 #[.pointer (some ⟨p, 0, none⟩), .int .i64 len, pv, qv] w fun e w' => e = .returned (.tuple #[.slice none 0 0, .iface 52 (.int .i64 n)]) ∧ Fr0 w w' := by
  have CK := Lib.hid hK
  clear hK
  go_enter Tryz.func23, Tryz.ntmps23
  go_wp2_with fail
  refine CK.out.mono ?_
  rintro e w1 ⟨rfl, hf1⟩
  go_wp2_with fail
  go_ret2
  exact ⟨rfl, hf1⟩

set_option maxRecDepth 100000 in
set_option maxHeartbeats 1000000 in
theorem pat_Compose_err2 {w : World} {p : Nat} (len m m2 : Int) (pv qv : Value) (n : Int) (hK : Calls Tryz.prog 18 #[.pointer (some ⟨p, 0, none⟩), .int .i64 len, pv] w fun e w' => e = .returned (.tuple #[.int .i64 m, .nilIface]) ∧ Fr0 w w')
    (hK2 : ∀ W, Fr0 w W → Calls Tryz.prog 18 #[.pointer (some ⟨p, 0, none⟩), .int .i64 m, qv] W fun e w' => e = .returned (.tuple #[.int .i64 m2, .iface 52 (.int .i64 n)]) ∧ Fr0 W w') :
    Calls Tryz.prog 23 #[.pointer (some ⟨p, 0, none⟩), .int .i64 len, pv, qv] w fun e w' => e = .returned (.tuple #[.slice none 0 0, .iface 52 (.int .i64 n)]) ∧ Fr0 w w' := by
  have CK := Lib.hid hK
  have CK2 := Lib.hid hK2
  clear hK hK2
  go_enter Tryz.func23, Tryz.ntmps23
  go_wp2_with fail
  refine CK.out.mono ?_
  rintro e w1 ⟨rfl, hf1⟩
  go_wp2_with fail
  refine (CK2.out _ hf1).mono ?_
  rintro e w2 ⟨rfl, hf2⟩
  go_wp2_with fail
  go_ret2
  exact ⟨rfl, hf1.trans hf2⟩

/-- Pieces of a call's own. -/
structure Pcs (MT : Nat) (L : List Ent) (w0 w : World) (v : Value) (xs : List Pm) (T : List (Int × Int)) (N : Nat) : Prop where
  own : w.ownsRow w0.heap.size 142 3 v xs.length (xs.flatMap Pm.vals)
  fr : Fr0 w0 w
  flat : flatP (txt L) xs = T
  ok : ∀ x ∈ xs, POk MT L x ∧ (x.text ≠ 0 → 0 < x.n)
  cnt : xs.length ≤ N

theorem Pcs.kept0 {MT : Nat} {L : List Ent} {w0 w w' : World} {v : Value} {xs : List Pm} {T : List (Int × Int)} {N : Nat} (h : Pcs MT L w0 w v xs T N) (hf : Fr0 w w') : Pcs MT L w0 w' v xs T N := ⟨hf.owns h.own, h.fr.trans hf, h.flat, h.ok, h.cnt⟩

/-- The whole text as one piece of its own. -/
theorem Pcs.one (MT : Nat) (L : List Ent) {w0 w : World} (hf : Fr0 w0 w) (n : Nat) (hn : (n : Int) ≤ 1152921504606846976) : Pcs MT L w0 (w.alloc (.cells #[.int .i64 0, .int .i64 0, .int .i64 (n : Int)] 142 (0, 0))) (.slice (some ⟨w.heap.size, 0, none⟩) 1 1) [⟨0, 0, (n : Int)⟩] (runC 0 n) 1 := by
  refine ⟨⟨rfl, .inr ⟨_, 1, _, rfl, hf.size, alloc_at _ _ _ rfl, Nat.le_refl _, by unfold maxLen; omega, rfl, rfl⟩⟩, hf.alloc _, ?_, ?_, Nat.le_refl _⟩
  · show clP _ _ ++ [] = _
    unfold clP
    rw [if_pos rfl, List.append_nil]
    rfl
  · intro x hx
    simp only [List.mem_singleton] at hx
    subst hx
    exact ⟨⟨by show (0 : Int) ≤ 0; omega, by show (0 : Int) ≤ n; omega, by show 0 + (n : Int) ≤ _; omega, fun h => absurd rfl h⟩, fun h => absurd rfl h⟩

/-- What replace needs of them. -/
theorem Pcs.slice {MT : Nat} {L : List Ent} {w0 w : World} {v : Value} {xs : List Pm} {T : List (Int × Int)} {N : Nat} (h : Pcs MT L w0 w v xs T N) (B : Nat) : ∃ a cap, v = .slice a xs.length cap ∧ RG Pm.vals 3 B w a xs ∧ (∀ ad, a = some ad → ad.block < w.heap.size) ∧ xs.length ≤ cap ∧ cap ≤ 9223372036854775807 := by
  obtain ⟨a, cap, rfl, hrg⟩ := rg_of_own (vals := Pm.vals) (size := 3) (B := B) (fun _ _ => rfl) h.own (by decide) (by decide)
  refine ⟨a, cap, rfl, hrg, ?_, ?_⟩
  · rintro ad rfl
    exact (h.own.lt ad.block rfl).2
  · rcases h.own.2 with ⟨e1, e2⟩ | ⟨g, c, cur, e1, _, _, e2, e3, _⟩
    · simp only [Value.slice.injEq] at e1
      omega
    · simp only [Value.slice.injEq] at e1
      unfold maxLen at e3
      omega

/-- After replace. -/
theorem Pcs.replaced {MT : Nat} {L : List Ent} {w0 w w' : World} {G : List (Int × Int)} {v : Value} {ys : List Pm} {N : Nat} (hf : Fr0 w0 w) (h1 : Fr0 w w') (h2 : w'.ownsRow w.heap.size 142 3 v ys.length (ys.flatMap Pm.vals)) (h3 : flatP (txt L) ys = G) (h4 : ∀ y ∈ ys, POk MT L y ∧ 0 < y.n) (h5 : ys.length ≤ N) : Pcs MT L w0 w' v ys G N :=
  ⟨owns_low h2 (Fr.size hf), hf.trans h1, h3, fun x hx => ⟨(h4 x hx).1, fun _ => (h4 x hx).2⟩, h5⟩

/-- The pieces' letters, number by number. -/
theorem pat_replaceP {B : Nat} {w0 w : World} {p mb : Nat} {most : Int} {MT : Nat} {L : List Ent} (hS : Sto B w p mb most L) (hO : SOk L) (hD : DOk L) {v : Value} {xs : List Pm} {T : List (Int × Int)} {N : Nat} (hP : Pcs MT L w0 w v xs T N) (hTl : (T.length : Int) ≤ 1152921504606846976) {cs : List Chg} {ps : List PC} {pa : Option Addr} {pcap : Nat} (hC : RG Chg.vals 3 B w pa cs) (hPC : PChg L cs ps) (hv : validP T.length (-1) ps = true) (hN : N + 3 * ps.length + 10 ≤ 800000) (hMT : ∀ c ∈ ps, c.text.length ≤ MT) :
    Calls Tryz.prog 66 #[.pointer (some ⟨p, 0, none⟩), v, .slice pa cs.length pcap] w (fun e w' => ∃ v' ys, e = .returned (.tuple #[v', .nilIface]) ∧ Fr0 w w' ∧ Pcs MT L w0 w' v' ys (patG embC T 0 ps) (N + 3 * ps.length + 1) ∧ ∀ y ∈ ys, 0 < y.n) := by
  obtain ⟨a, cap, rfl, h1, h2, h3, h4⟩ := hP.slice B
  have hc := hP.cnt
  refine (pat_replace hS hO hD h1 h2 (fun x hx => (hP.ok x hx).1) h3 h4 hP.flat hTl hC hPC hv (by omega) hMT).mono ?_
  rintro e w' ⟨v', ys, rfl, q1, q2, q3, q4, q5⟩
  exact ⟨v', ys, rfl, q1, Pcs.replaced hP.fr q1 q2 q3 q4 (by omega), fun y hy => (q4 y hy).2⟩

/-- The state of Compose's loop. -/
def CpL (MT : Nat) (L : List Ent) (w wr : World) (T0 T1 T2 : List (Int × Int)) (N1 N2 : Nat) (v : Value) (k : Nat) : Prop :=
  ∃ xs, (k = 0 ∧ Pcs MT L w wr v xs T0 1) ∨ (k = 1 ∧ Pcs MT L w wr v xs T1 N1) ∨ (k = 2 ∧ Pcs MT L w wr v xs T2 N2 ∧ ∀ y ∈ xs, 0 < y.n)

set_option maxRecDepth 100000 in
set_option maxHeartbeats 4000000 in
theorem pat_Compose_ok {B : Nat} {w : World} {p mb : Nat} {most : Int} {L : List Ent} (MT D n : Nat) {ps qs : List PC} {cs ds : List Chg} {pa qa : Option Addr} {pcap qcap : Nat} (hR : Room B w p mb most L ((3 * ps.length + 3 * qs.length + 4) * (14 * D + 2))) (hn : (n : Int) ≤ 1152921504606846976)
    (hC : RG Chg.vals 3 B w pa cs) (hP : PChg L cs ps) (hC' : RG Chg.vals 3 B w qa ds) (hP' : PChg L ds qs) (hl : 3 * ps.length + 3 * qs.length + 20 ≤ 400000)
    (hv : validP n (-1) ps = true) (hT1 : ((patG embC (runC 0 n) 0 ps).length : Int) ≤ 1152921504606846976) (hv' : validP (patG embC (runC 0 n) 0 ps).length (-1) qs = true) (hT2 : ((patG embC (patG embC (runC 0 n) 0 ps) 0 qs).length : Int) ≤ 1152921504606846976)
    (hM : ∀ c ∈ ps, c.text.length ≤ MT) (hM' : ∀ c ∈ qs, c.text.length ≤ MT) (hMD : MT < lst (D + 1)) {RES : List PC} (hRES : btw n 0 [] (patG embC (patG embC (runC 0 n) 0 ps) 0 qs) = RES) (hI : insP RES < lst (D + 1)) (hI2 : insP RES ≤ 100000000) :
    Calls Tryz.prog 23 #[.pointer (some ⟨p, 0, none⟩), .int .i64 n, .slice pa cs.length pcap, .slice qa ds.length qcap] w (ClPost B w p mb most L RES ((3 * ps.length + 3 * qs.length + 4) * (14 * D + 2))) := by
  have hrl : (runC 0 n).length = n := runC_len 0 n
  have hcl := hP.len
  have hcl' := hP'.len
  generalize hT1e : patG embC (runC 0 n) 0 ps = T1 at *
  generalize hT2e : patG embC T1 0 qs = T2 at *
  have hv2 : validP (runC 0 n).length (-1) ps = true := by rw [hrl]; exact hv
  have l1 : (T1.length : Int) = n - delP ps + insP ps := by
    have := patG_len embC (runC 0 n) ps 0 (-1) hv2 (by omega) (by omega) (by omega)
    rw [hT1e, hrl] at this
    omega
  have l2 : (T2.length : Int) = T1.length - delP qs + insP qs := by
    have := patG_len embC T1 qs 0 (-1) hv' (by omega) (by omega) (by omega)
    rw [hT2e] at this
    omega
  have hfm := hP.valid hR.dok hR.sok (length := n) (-1)
  rw [hv] at hfm
  have hfm' := hP'.valid hR.dok hR.sok (length := T1.length) (-1)
  rw [hv'] at hfm'
  have CL1 := Lib.hid (fun W (hW : Fr0 w W) => by
    obtain ⟨sv, hS, _⟩ := hR.st
    have := pat_Length_ok (hS.kept0 hW) hR.sok n (by omega) (by omega) pa pcap cs ((chgs_of_rg hC).kept0 hW) (by omega) hP.known hfm (by rw [hP.del, hP.ins hR.dok hR.sok]; omega)
    rw [hP.del, hP.ins hR.dok hR.sok, ← l1] at this
    exact this)
  have CL2 := Lib.hid (fun W (hW : Fr0 w W) => by
    obtain ⟨sv, hS, _⟩ := hR.st
    exact pat_Length_ok (hS.kept0 hW) hR.sok T1.length (by omega) (by omega) qa qcap ds ((chgs_of_rg hC').kept0 hW) (by omega) hP'.known hfm' (by rw [hP'.del, hP'.ins hR.dok hR.sok]; omega))
  have CR1 := Lib.hid (fun W (hW : Fr0 w W) v (xs : List Pm) (h : Pcs MT L w W v xs (runC 0 n) 1) => pat_replaceP (pcap := pcap) (hR.st.kept0 hW) hR.sok hR.dok h (by rw [hrl]; exact hn) (hC.kept0 hW) hP hv2 (by omega) hM)
  rw [hT1e] at CR1
  have CR2 := Lib.hid (fun W (hW : Fr0 w W) v (xs : List Pm) (h : Pcs MT L w W v xs T1 (1 + 3 * ps.length + 1)) => pat_replaceP (pcap := qcap) (hR.st.kept0 hW) hR.sok hR.dok h hT1 (hC'.kept0 hW) hP' hv' (by omega) hM')
  rw [hT2e] at CR2
  have CC := Lib.hid (fun W (hW : Fr0 w W) v (xs : List Pm) (h : Pcs MT L w W v xs T2 (1 + 3 * ps.length + 1 + 3 * qs.length + 1)) (hpos : ∀ y ∈ xs, 0 < y.n) => pat_collect (MT := MT) D (len := n) ((hR.kept0 hW).less (Nat.mul_le_mul_right _ (by have := h.cnt; omega))) hR.base (Kp.of0 hW) v h.own h.ok (by omega) hn hMD (RES := RES) (by rw [btwP_flat MT L n xs 0 [] (fun x hx => ⟨(h.ok x hx).1, hpos x hx⟩), h.flat]; exact hRES) hI hI2 (by have := h.cnt; omega))
  have HW : Hid (∀ W, Fr0 w W → Pcs MT L w (W.alloc (.cells #[.int .i64 0, .int .i64 0, .int .i64 (n : Int)] 142 (0, 0))) (.slice (some ⟨W.heap.size, 0, none⟩) 1 1) [⟨0, 0, (n : Int)⟩] (runC 0 n) 1) := fun W hW => Pcs.one MT L hW n hn
  have HCL : Hid (∀ e w' (xs : List Pm), xs.length ≤ 1 + 3 * ps.length + 1 + 3 * qs.length + 1 → ClPost B w p mb most L RES ((xs.length + 1) * (14 * D + 2)) e w' → ClPost B w p mb most L RES ((3 * ps.length + 3 * qs.length + 4) * (14 * D + 2)) e w') := by
    rintro e w' xs hx ⟨L', v, cs, k, h1, h2, h3, h4, h5, h6⟩
    exact ⟨L', v, cs, k, h1, h2, h3, h4, Nat.le_trans h5 (Nat.mul_le_mul_right _ (by omega)), h6⟩
  clear hR hC hP hC' hP' hl hv hv' hT2 hM hM' hMD hRES hI hI2 hrl hcl hcl' hv2 l2 hfm hfm' hT1e hT2e
  go_enter Tryz.func23, Tryz.ntmps23
  go_wp2_with fail
  refine (CL1.out _ (Fr0.refl _)).mono ?_
  rintro e w1 ⟨rfl, f1⟩
  generalize (T1.length : Int) = m1 at *
  generalize m1 - sumN ds + sumT (lnL L) ds = m2 at *
  clear hT1 l1 CL1
  go_wp2_with fail
  refine (CL2.out _ f1).mono ?_
  rintro e w2 ⟨rfl, f2⟩
  have F2 := f1.trans f2
  have hp1 := HW.out _ F2
  clear f1 f2 CL2 HW
  have hb1 : ((w2.alloc (.cells #[.int .i64 0, .int .i64 0, .int .i64 (n : Int)] 142 (0, 0))).alloc (.cells #[.slice pa cs.length pcap, .slice qa ds.length qcap] 23 (0, 0))).heap[w2.heap.size + 1]? = some (.cells #[.slice pa cs.length pcap, .slice qa ds.length qcap] 23 (0, 0)) := alloc_at _ _ _ (by simp)
  have FA : Fr0 w ((w2.alloc (.cells #[.int .i64 0, .int .i64 0, .int .i64 (n : Int)] 142 (0, 0))).alloc (.cells #[.slice pa cs.length pcap, .slice qa ds.length qcap] 23 (0, 0))) := (F2.alloc _).alloc _
  have H0 : Hid (CpL MT L w ((w2.alloc (.cells #[.int .i64 0, .int .i64 0, .int .i64 (n : Int)] 142 (0, 0))).alloc (.cells #[.slice pa cs.length pcap, .slice qa ds.length qcap] 23 (0, 0))) (runC 0 n) T1 T2 (1 + 3 * ps.length + 1) (1 + 3 * ps.length + 1 + 3 * qs.length + 1) (.slice (some ⟨w2.heap.size, 0, none⟩) 1 1) 0) := ⟨_, .inl ⟨rfl, hp1.kept0 ((Fr0.refl _).alloc _)⟩⟩
  clear hp1 F2
  go_wp2_with fail
  generalize hWA : (w2.alloc (.cells #[.int .i64 0, .int .i64 0, .int .i64 (n : Int)] 142 (0, 0))).alloc (.cells #[.slice pa cs.length pcap, .slice qa ds.length qcap] 23 (0, 0)) = WA at *
  clear hWA
  go_loopw [14, 44] (fun v i wr => ∃ (k : Nat), k ≤ 2 ∧ i = .int .i64 k ∧ Fr0 WA wr ∧ CpL MT L w wr (runC 0 n) T1 T2 (1 + 3 * ps.length + 1) (1 + 3 * ps.length + 1 + 3 * qs.length + 1) v k) (fun _ i _ => 2 - (intOf i).toNat)
  case atStart => exact ⟨0, by omega, rfl, Fr0.refl _, H0.out⟩
  case round =>
    clear H0
    obtain ⟨k, hk, rfl, hf, xs, hr⟩ := hrel
    have hbr := hf.kept hb1
    have z0 : wr.cell? ⟨w2.heap.size + 1, 0, none⟩ = some (.slice pa cs.length pcap) := by rw [cell_of_block hbr]; rfl
    have z1 : wr.cell? ⟨w2.heap.size + 1, 1, none⟩ = some (.slice qa ds.length qcap) := by rw [cell_of_block hbr]; rfl
    have lz := lt_of_block hbr
    have HFR := Lib.hid (FA.trans hf)
    have HF := Lib.hid hf
    clear hb1 hbr FA hf
    rcases hr with ⟨rfl, hr⟩ | ⟨rfl, hr⟩ | ⟨rfl, hr, hpos⟩
    · have CX := Lib.hid (CR1.out wr HFR.out u14 xs hr)
      clear hr CR1 CR2 CC hk
      go_wp2_with fail
      refine CX.out.mono ?_
      rintro e w3 ⟨v', ys, rfl, q1, q2, q3⟩
      have HX : Hid (Fr0 WA w3 ∧ CpL MT L w w3 (runC 0 n) T1 T2 (1 + 3 * ps.length + 1) (1 + 3 * ps.length + 1 + 3 * qs.length + 1) v' 1) := ⟨HF.out.trans q1, ys, .inr (.inl ⟨rfl, q2⟩)⟩
      clear q1 q2 q3 CX
      go_wp2_with fail
      go_roundw
      case rel => exact ⟨1, by omega, by first | rfl | go_num, HX.out.1, HX.out.2⟩
      case measure => simp [intOf]
    · have CX := Lib.hid (CR2.out wr HFR.out u14 xs hr)
      clear hr CR1 CR2 CC hk
      go_wp2_with fail
      refine CX.out.mono ?_
      rintro e w3 ⟨v', ys, rfl, q1, q2, q3⟩
      have HX : Hid (Fr0 WA w3 ∧ CpL MT L w w3 (runC 0 n) T1 T2 (1 + 3 * ps.length + 1) (1 + 3 * ps.length + 1 + 3 * qs.length + 1) v' 2) := ⟨HF.out.trans q1, ys, .inr (.inr ⟨rfl, q2, q3⟩)⟩
      clear q1 q2 q3 CX
      go_wp2_with fail
      go_roundw
      case rel => exact ⟨2, by omega, by first | rfl | go_num, HX.out.1, HX.out.2⟩
      case measure => simp [intOf]
    · have CX := Lib.hid (CC.out wr HFR.out u14 xs hr hpos)
      have HN := Lib.hid (fun e w' => HCL.out e w' xs hr.cnt)
      clear hr CR1 CR2 CC hk hpos HCL
      go_wp2_with fail
      refine CX.out.mono ?_
      rintro e w3 hx
      have hx2 := HN.out _ _ hx
      obtain ⟨L', v', cs', k', rfl, hrest⟩ := hx2
      have HX := Lib.hid hrest
      clear hrest hx CX HN
      go_wp2_with fail
      go_ret2
      exact ⟨L', v', cs', k', rfl, HX.out⟩

end Go.Proofs.YtclpndigmidjkaaGreat

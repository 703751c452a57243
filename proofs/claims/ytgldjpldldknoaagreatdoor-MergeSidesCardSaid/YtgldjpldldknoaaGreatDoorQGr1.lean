/- The walk of evergreenlaw43.great with one patch. -/
import Derived.Test.YtgldjpldldknoaaGreatDoorQFt1
import Derived.Test.YtgldjpldldknoaaGreatDoorQBof0
import Derived.Test.YtgldjpldldknoaaGreatDoorQLg1
import Derived.Test.YtgldjpldldknoaaGreatDoorQMr5
set_option linter.unusedSimpArgs false
set_option linter.unusedVariables false
namespace Go.Proofs.YtgldjpldldknoaaGreatDoor
open Go.RowKit
structure GtR (B : Nat) (w w' : World) (p mb : Nat) (most : Int) (L L' : List Ent) (t : List Int) (RES : List PC) (id d : Int) (va : Option Addr) (ca : Nat) (cs : List Chg) (k : Nat) : Prop where
 st : Sto B w' p mb most L'
 kp : Kp B mb w w'
 gr : Grows L L' k
 le : k ≤ 17400
 text : BalZ L' id t d
 oa : w'.ownsRow w.heap.size 55 3 (.slice va cs.length ca) cs.length (cs.flatMap Chg.vals)
 pa : PChg L' cs RES
def GtPost (B : Nat) (w : World) (p mb : Nat) (most : Int) (L : List Ent) (t : List Int) (RES : List PC) (e : Ending) (w' : World) : Prop :=
 ∃ L' id d va ca cs v k, e = .returned (.tuple #[.int .i64 id, .slice va cs.length ca, v, .bool true]) ∧ GtR B w w' p mb most L L' t RES id d va ca cs k
theorem GtR.kept0 {B : Nat} {w w' W : World} {p mb : Nat} {most : Int} {L L' : List Ent} {t : List Int} {RES : List PC} {id d : Int} {va : Option Addr} {ca : Nat} {cs : List Chg} {k : Nat} (h : GtR B w w' p mb most L L' t RES id d va ca cs k) (hf : Fr0 w' W) : GtR B w W p mb most L L' t RES id d va ca cs k :=
 ⟨h.st.kept0 hf, h.kp.trans (Kp.of0 hf), h.gr, h.le, h.text, hf.owns h.oa, h.pa⟩
set_option maxRecDepth 100000 in
set_option maxHeartbeats 4000000 in
theorem law43_great {B : Nat} {w : World} {p mb : Nat} {most : Int} {L : List Ent} {s : ByteArray} {tm : Int} {a : Option Addr} {ka : Nat} {ps : List PS} (hR : Room B w p mb most L 17400) (hA : RG PS.vals 3 B w a ps) (h0 : 0 ≤ tm) (h1 : tm < 4294967296) :
    Calls Tryz.prog 6 #[.pointer (some ⟨p, 0, none⟩), .string s, .int .u32 tm, .slice a ps.length ka, .slice none 0 0] w (GtPost B w p mb most L (reps ((sbs s).take 50) tm.toNat) (ftL (reps ((sbs s).take 50) tm.toNat).length 8 0 ps)) := by
 obtain ⟨t, ht⟩ : ∃ t, (sbs s).take 50 = t := ⟨_, rfl⟩
 rw [ht]
 have htl : t.length ≤ 50 := by rw [← ht, List.length_take]; omega
 obtain ⟨T, hTT⟩ : ∃ T, reps t tm.toNat = T := ⟨_, rfl⟩
 have hTl : T.length ≤ 50 * 4294967296 := by
  rw [← hTT, reps_len]
  calc _ ≤ 4294967296 * 50 := Nat.mul_le_mul (by omega) htl
   _ ≤ _ := by omega
 rw [hTT]
 have HR := Lib.hid hR
 have HA := Lib.hid hA
 have HT := Lib.hid ht
 have HTT := Lib.hid hTT
 have HTL := Lib.hid htl
 have HTTL := Lib.hid hTl
 have hcv : IntKind.i64.wrap tm = tm := IntWalk.i64_in _ (by omega)
 clear hR hA ht hTT htl hTl
 go_enter Tryz.func6, Tryz.ntmps6
 go_upto_region 1 with fail
 go_cut [14, 15] (CtPost B w p mb most L t)
 case first =>
  by_cases hs : (s.size : Int) ≤ (50 : Int)
  · have ex : sbs s = t := by rw [← HT.out]; exact (sbs_all50 s hs).symm
    obtain ⟨ccap, cf, hconv, hcap1, hcap2⟩ := conv_bytes w s
    have hcap3 := hcap2 (by unfold maxLen; omega)
    unfold maxLen at hcap3
    have CT := Lib.hid (sto_Text50 (HR.out.less (m := 100) (by omega)) (Fr0.refl w) s (by omega) ccap cf hcap1 hcap3 w.heap.size rfl)
    rw [ex] at CT
    clear hcap2 ex HA HT HTT HTL HTTL HR
    go_wp2_with fail
    (with_reducible refine CT.out.mono ?_)
    rintro e w3 ⟨v, rfl, hv⟩
    have HV := Lib.hid hv
    clear hv CT hconv
    go_wp2_with fail
    go_meet
    exact HV.out
  · have hs2 : (50 : Int) ≤ (s.size : Int) := by omega
    have hz := size_cut50 s hs2
    have ex : sbs (s.extract 0 50) = t := by rw [← HT.out]; exact sbs_cut50 s 50 (by omega)
    obtain ⟨ccap, cf, hconv, hcap1, hcap2⟩ := conv_bytes w (s.extract 0 50)
    have hcap3 := hcap2 (by unfold maxLen; omega)
    unfold maxLen at hcap3
    have CT := Lib.hid (sto_Text50 (HR.out.less (m := 100) (by omega)) (Fr0.refl w) (s.extract 0 50) (by omega) ccap cf hcap1 hcap3 w.heap.size rfl)
    rw [hz] at CT hconv hcap1
    rw [ex] at CT
    clear hcap2 hz ex HA HT HTT HTL HTTL HR
    go_wp2_with fail
    (with_reducible refine CT.out.mono ?_)
    rintro e w3 ⟨v, rfl, hv⟩
    have HV := Lib.hid hv
    clear hv CT hconv
    go_wp2_with fail
    go_meet
    exact HV.out
 case rest =>
 obtain ⟨rfl, L1, z, dz, k1, rfl, hS1, hK1, g1, b1, hk1⟩ := hcut
 rename World => w1
 have hr1 : Room B w1 p mb most L1 17300 := HR.out.next (k := 17300) hS1 hK1 g1 (by omega)
 have CRp := Lib.hid (bal_Repeat (hr1.less (m := 15677) (by omega)) b1 h0 (by omega) (by have := HTL.out; omega) (by rw [HTT.out]; have := HTTL.out; omega))
 rw [HTT.out] at CRp
 have HR1 := Lib.hid hr1
 have HK1 := Lib.hid hK1
 have HG1 := Lib.hid g1
 clear hS1 hK1 g1 b1 hr1 HR
 go_wp2_with fail
 refine CRp.out.mono ?_
 rintro e w2 ⟨L2, id, d, k2, rfl, hS2, hK2, g2, b2, hk2⟩
 have hr2 : Room B w2 p mb most L2 1600 := HR1.out.next (k := 1600) hS2 hK2 g2 (by omega)
 have hln := b2.len hr2.dok hr2.sok
 have CW := Lib.hid (sto_Weight hS2 id b2.known)
 rw [← hln] at CW
 have HR2 := Lib.hid hr2
 have HK2 := Lib.hid (HK1.out.trans hK2)
 have HG2 := Lib.hid (HG1.out.trans g2 (Nat.le_refl _))
 have HB2 := Lib.hid b2
 have hK12 : Hid (k1 + k2 ≤ 15777) := by show _ ≤ _; omega
 generalize (entAt L2 id).wt = wt at *
 clear hS2 hK2 g2 b2 hr2 hln hk1 hk2 CRp HK1 HG1 HR1
 go_wp2_with fail
 refine CW.out.mono ?_
 rintro e w3 ⟨rfl, f3⟩
 go_upto_region 4 with fail
 have F3 : Fr0 w2 (w3.alloc (.cells #[.int .i64 T.length, .int .i64 wt.lines, .int .i64 wt.head, .int .i64 wt.tail, .int .u64 wt.val, .int .u64 wt.scale] 47 (0, 0))) := f3.alloc _
 have b3 := alloc_at w3 (.cells #[.int .i64 T.length, .int .i64 wt.lines, .int .i64 wt.head, .int .i64 wt.tail, .int .u64 wt.val, .int .u64 wt.scale] 47 (0, 0)) w3.heap.size rfl
 generalize w3.alloc (.cells #[.int .i64 T.length, .int .i64 wt.lines, .int .i64 wt.head, .int .i64 wt.tail, .int .u64 wt.val, .int .u64 wt.scale] 47 (0, 0)) = W3 at *
 generalize w3.heap.size = K3 at *
 have hK3 := HK2.out.trans (Kp.of0 F3)
 have c3 : W3.cell? ⟨K3, 0, none⟩ = some (.int .i64 T.length) := by rw [cell_of_block b3]; rfl
 have l3 := lt_of_block b3
 have CF := Lib.hid (law43_fit (T := (T.length : Int)) (cap := ka) (HR2.out.kept0 F3 |>.less (m := 800) (by omega)) (HA.out.keptK hK3) (by omega) (by have := HTTL.out; omega))
 have HR3 := Lib.hid (HR2.out.kept0 F3)
 have HK3 := Lib.hid hK3
 have HBL := Lib.hid b3
 clear F3 f3 hK3 b3 CW HR2 HK2 HA
 go_wp2_with fail
 refine CF.out.mono ?_
 rintro e w4 ⟨L4, v4, cs, k4, rfl, hS4, hK4, g4, hk4, ho4, hp4⟩
 have hr4 : Room B w4 p mb most L4 800 := HR3.out.next (k := 800) hS4 hK4 g4 (by omega)
 obtain ⟨c4, _, _, _, _, _, l4, _⟩ := cells6t (hK4.cells _ _ _ _ HBL.out (by decide) (by decide))
 have CN := Lib.hid (law43_fit (T := (T.length : Int)) (ps := []) (a := none) (cap := 0) hr4 (RG.nil _ _ _ _ _) (by omega) (by have := HTTL.out; omega))
 have ho4' := owns_dn ho4 HK3.out.size
 obtain ⟨va, ca, rfl, _, _⟩ := own_rg ho4' B
 have HR4 := Lib.hid hr4
 have HK4 := Lib.hid (HK3.out.trans hK4)
 have HG4 := Lib.hid (HG2.out.trans g4 (Nat.le_refl _))
 have HB4 := Lib.hid (g4.balz HR3.out.dok HB2.out)
 have HO4 := Lib.hid ho4'
 have HP4 := Lib.hid hp4
 have hK4 : Hid (k1 + k2 + k4 ≤ 16577) := by have := hK12.out; show _ ≤ _; omega
 clear hS4 g4 hr4 ho4 ho4' hp4 hk4 CF HR3 HK3 HG2 HB2 c3 l3 HBL hK12
 go_wp2_with fail
 refine CN.out.mono ?_
 rintro e w5 ⟨L5, v5, ds, k5, rfl, hS5, hK5, g5, hk5, ho5, hp5⟩
 obtain ⟨vb, cb, rfl, _, _⟩ := own_rg ho5 B
 have HM : Hid (GtR B w w5 p mb most L L5 T (ftL (T.length : Int) 8 0 ps) id d va ca cs (k1 + k2 + k4 + k5)) := by
  have := hK4.out
  exact ⟨hS5, HK4.out.trans hK5, HG4.out.trans g5 (Nat.le_refl _), by omega, g5.balz HR4.out.dok HB4.out, hK5.owns HO4.out (by decide) (by decide), HP4.out.more g5 HR4.out.dok⟩
 clear CN hS5 hK5 g5 hk5 ho5 hp5 HR4 HK4 HG4 HB4 HO4 HP4 hK4 c4 l4 HTT HTL HTTL HT
 go_wp2_with fail
 refine bodyPost_ret (v := .tuple #[.int .i64 id, .slice va cs.length ca, .slice vb ds.length cb, .bool true]) (by simp [results, Tryz.results6, go_sem]) rfl ⟨L5, id, d, va, ca, cs, _, _, rfl, HM.out.kept0 (by first | exact Fr0.refl _ | exact (Fr0.refl _).drewN _ | exact (Fr0.refl _).drew)⟩
end Go.Proofs.YtgldjpldldknoaaGreatDoor
/- The walk of MergeSides. -/
set_option linter.unusedSimpArgs false
set_option linter.unusedVariables false
namespace Go.Proofs.YtgldjpldldknoaaGreatDoor
open Go.RowKit
structure PtRow (base : Nat) (w : World) (L : List Ent) (a : Option Addr) (c : Nat) (cs : List Chg) (RES : List PC) : Prop where
 own : w.ownsRow base 55 3 (.slice a cs.length c) cs.length (cs.flatMap Chg.vals)
 all : PChg L cs RES
theorem PtRow.next {B base : Nat} {w w' : World} {mp kb pp tp p mb : Nat} {most : Int} {L L' : List Ent} {n : Nat} {a : Option Addr} {c : Nat} {cs : List Chg} {RES : List PC} (h : PtRow base w L a c cs RES) (hm : Me B w mp kb pp tp p mb most L) (hk : Kk B mb kb w w') (hg : Gu L L' n) : PtRow base w' L' a c cs RES :=
 ⟨own_kk1 hm hk h.own (by decide), h.all.more hg.gr hm.dok⟩
theorem PtRow.kept0 {base : Nat} {w w' : World} {L : List Ent} {a : Option Addr} {c : Nat} {cs : List Chg} {RES : List PC} (h : PtRow base w L a c cs RES) (hf : Fr0 w w') : PtRow base w' L a c cs RES := ⟨hf.owns h.own, h.all⟩
theorem PtRow.rg {base : Nat} {w : World} {L : List Ent} {a : Option Addr} {c : Nat} {cs : List Chg} {RES : List PC} (h : PtRow base w L a c cs RES) (B : Nat) : RG Chg.vals 3 B w a cs := owns_rd (vals := Chg.vals) (size := 3) (fun _ _ => rfl) h.own (by decide) (by decide)
theorem PtRow.cap {base : Nat} {w : World} {L : List Ent} {a : Option Addr} {c : Nat} {cs : List Chg} {RES : List PC} (h : PtRow base w L a c cs RES) : cs.length ≤ c := own_cap h.own
def OwX (B base : Nat) (w : World) (mp kb pp tp p mb : Nat) (most : Int) (L : List Ent) (RES : List PC) (e : Ending) (w' : World) : Prop :=
 ∃ L' a c rs va vc, e = .returned (.tuple #[.slice a rs.length c, .slice va 0 vc, .nilIface]) ∧ Me B w' mp kb pp tp p mb most L' ∧ Kk B mb kb w w' ∧ Gu L L' 0 ∧ PtRow base w' L' a c rs RES
theorem mw_OfX {B base : Nat} {w : World} {mp kb pp tp p mb : Nat} {most : Int} {L : List Ent} {id : Int} {t : List Int} {d : Int} {a b : Option Addr} {ca cb : Nat} {cs ds : List Chg} {ps qs : List PC} (hm : Me B w mp kb pp tp p mb most L) (h2 : TwoG B w L id t d a b ca cb cs ds ps qs) (hwg : ∀ g ∈ dvdG Chg.at_ Chg.n cs ds, WholeG g) {RES : List PC} (hO : mgO t (dvdG PC.at_ PC.n ps qs) = RES) (hC : mgC t (dvdG PC.at_ PC.n ps qs) = []) (hb : base ≤ w.heap.size) :
    Calls Tryz.prog 7 #[.pointer (some ⟨mp, 0, none⟩), .int .i64 id, .slice a cs.length ca, .slice b ds.length cb] w (OwX B base w mp kb pp tp p mb most L RES) := by
 refine (mw_Of hm h2 hwg hO hC).mono ?_
 rintro e w' ⟨L', v1, v2, rs, rfl, h1, h3, h4, h5, h7, va, vc, rfl⟩
 obtain ⟨a1, c1, rfl⟩ := owns_form h5
 exact ⟨L', a1, c1, rs, va, vc, rfl, h1, h3, h4, owns_dn h5 hb, h7⟩
structure Sd (B base : Nat) (w : World) (mp kb pp tp p mb : Nat) (L : List Ent) (id : Int) (t : List Int) (d : Int) (a : Option Addr) (c : Nat) (cs : List Chg) (RES : List PC) : Prop where
 me : Me B w mp kb pp tp p mb 1048576 L
 text : BalZ L id t d
 row : PtRow base w L a c cs RES
 vp : validP t.length (-1) RES = true
 lc : RES.length ≤ 8
 lt : t.length ≤ 50 * 4294967296
 li : insP RES ≤ 400
 tx : ∀ x ∈ RES, x.text.length ≤ 50
 bs : base ≤ w.heap.size
theorem Sd.next {B base : Nat} {w w' : World} {mp kb pp tp p mb : Nat} {L L' : List Ent} {id : Int} {t : List Int} {d : Int} {a : Option Addr} {c n : Nat} {cs : List Chg} {RES : List PC} (h : Sd B base w mp kb pp tp p mb L id t d a c cs RES) (hm : Me B w' mp kb pp tp p mb 1048576 L') (hk : Kk B mb kb w w') (hg : Gu L L' n) : Sd B base w' mp kb pp tp p mb L' id t d a c cs RES :=
 ⟨hm, hg.gr.balz h.me.dok h.text, h.row.next h.me hk hg, h.vp, h.lc, h.lt, h.li, h.tx, Nat.le_trans h.bs hk.size⟩
theorem Sd.left {B base : Nat} {w : World} {mp kb pp tp p mb : Nat} {L : List Ent} {id : Int} {t : List Int} {d : Int} {a : Option Addr} {c : Nat} {cs : List Chg} {RES : List PC} (h : Sd B base w mp kb pp tp p mb L id t d a c cs RES) :
    Calls Tryz.prog 7 #[.pointer (some ⟨mp, 0, none⟩), .int .i64 id, .slice a cs.length c, .slice none 0 0] w (OwX B base w mp kb pp tp p mb 1048576 L RES) := by
 have hl := h.row.all.len
 have h1 := h.lc
 have h3 := h.lt
 have h4 := h.li
 have h2 : TwoG B w L id t d a none c 0 cs [] RES [] := ⟨h.text, h.row.rg B, RG.nil _ _ _ _ _, h.row.cap, Nat.le_refl _, h.row.all, trivial, h.vp, rfl, by simp; omega, by simp only [insP]; omega⟩
 obtain ⟨q1, q2, q3⟩ := mw_left h2
 exact mw_OfX h.me h2 q1 q2 q3 h.bs
theorem Sd.right {B base : Nat} {w : World} {mp kb pp tp p mb : Nat} {L : List Ent} {id : Int} {t : List Int} {d : Int} {a : Option Addr} {c : Nat} {cs : List Chg} {RES : List PC} (h : Sd B base w mp kb pp tp p mb L id t d a c cs RES) :
    Calls Tryz.prog 7 #[.pointer (some ⟨mp, 0, none⟩), .int .i64 id, .slice none 0 0, .slice a cs.length c] w (OwX B base w mp kb pp tp p mb 1048576 L RES) := by
 have hl := h.row.all.len
 have h1 := h.lc
 have h3 := h.lt
 have h4 := h.li
 have h2 : TwoG B w L id t d none a 0 c [] cs [] RES := ⟨h.text, RG.nil _ _ _ _ _, h.row.rg B, Nat.le_refl _, h.row.cap, trivial, h.row.all, rfl, h.vp, by simp; omega, by simp only [insP]; omega⟩
 obtain ⟨q1, q2, q3⟩ := mw_right h2
 exact mw_OfX h.me h2 q1 q2 q3 h.bs
theorem Sd.self {B base : Nat} {w : World} {mp kb pp tp p mb : Nat} {L : List Ent} {id : Int} {t : List Int} {d : Int} {a : Option Addr} {c : Nat} {cs : List Chg} {RES : List PC} (h : Sd B base w mp kb pp tp p mb L id t d a c cs RES) :
    Calls Tryz.prog 7 #[.pointer (some ⟨mp, 0, none⟩), .int .i64 id, .slice a cs.length c, .slice a cs.length c] w (OwX B base w mp kb pp tp p mb 1048576 L RES) := by
 have hl := h.row.all.len
 have h1 := h.lc
 have h3 := h.lt
 have h4 := h.li
 have h2 : TwoG B w L id t d a a c c cs cs RES RES := ⟨h.text, h.row.rg B, h.row.rg B, h.row.cap, h.row.cap, h.row.all, h.row.all, h.vp, h.vp, by omega, by omega⟩
 obtain ⟨q1, q2, q3⟩ := mw_self h2
 exact mw_OfX h.me h2 q1 q2 q3 h.bs
theorem Sd.alike {B base : Nat} {w : World} {mp kb pp tp p mb : Nat} {L : List Ent} {id : Int} {t : List Int} {d : Int} {a b : Option Addr} {c cb : Nat} {cs rs : List Chg} {RES : List PC} (h : Sd B base w mp kb pp tp p mb L id t d a c cs RES) (hr : PtRow base w L b cb rs RES) (hL : L.length ≤ 400000) :
    Calls Tryz.prog 8 #[.pointer (some ⟨mp, 0, none⟩), .slice b rs.length cb, .slice a cs.length c] w fun e w' => ∃ L', e = .returned (.bool true) ∧ Me B w' mp kb pp tp p mb 1048576 L' ∧ Kk B mb kb w w' ∧ Gu L L' 20000 := by
 have hl := hr.all.len
 have h1 := h.lc
 exact law43_alike h.me hr.own h.row.own hr.all h.row.all h.tx (by omega) (by omega) (by omega)
set_option maxRecDepth 100000 in
set_option maxHeartbeats 4000000 in
theorem law_MergeSides {w : World} (hdeb : Deb w.heap.size w) (s : ByteArray) {tm : Int} (h0 : 0 ≤ tm) (h1 : tm < 4294967296) {a : Option Addr} {ka : Nat} {ps : List PS} (hA : RG PS.vals 3 w.heap.size w a ps) :
    Calls Tryz.prog 3 #[.string s, .int .u32 tm, .slice a ps.length ka] w fun e w' => e = .returned (.bool true) ∧ Fr0 w w' := by
 have CB := Lib.hid (law43_begun hdeb)
 have HA := Lib.hid hA
 clear hA hdeb
 go_enter Tryz.func3, Tryz.ntmps3
 go_wp2_with fail
 refine CB.out.mono ?_
 rintro e w1 ⟨mp, kb, pp, tp, p, mb, L, rfl, hm1, hl1, hf1, hkb⟩
 have CG := Lib.hid (law43_great (s := s) (ka := ka) (hm1.room (n := 17400) (by omega) (by omega)) (HA.out.kept0 hf1) h0 h1)
 have HM1 := Lib.hid hm1
 have HF1 := Lib.hid hf1
 have HL1 := Lib.hid hl1
 have HKB := Lib.hid hkb
 clear CB hm1 hf1 hl1 hkb
 go_wp2_with fail
 refine CG.out.mono ?_
 rintro e w2 ⟨L2, id, d, va, ca, cs, v3, k2, rfl, hg2⟩
 obtain ⟨t, ht⟩ : ∃ t, reps ((sbs s).take 50) tm.toNat = t := ⟨_, rfl⟩
 rw [ht] at hg2
 have htl : t.length ≤ 50 * 4294967296 := by
  rw [← ht, reps_len, List.length_take]
  calc _ ≤ 4294967296 * 50 := Nat.mul_le_mul (by omega) (by omega)
   _ ≤ _ := by omega
 obtain ⟨RES, hres⟩ : ∃ RES, ftL (t.length : Int) 8 0 ps = RES := ⟨_, rfl⟩
 rw [hres] at hg2
 obtain ⟨q1, q2, q3⟩ := ft_len (t.length : Int) 8 0 ps
 have hvp := ft_valid (t.length : Int) 8 0 (-1) ps (by omega) (by omega)
 rw [hres] at q1 q2 q3 hvp
 have hl2 : L2.length ≤ 27400 := by have := hg2.gr.len; have := hg2.le; have := HL1.out; omega
 have hs2 : Sd w.heap.size w.heap.size w2 mp kb pp tp p mb L2 id t d va ca cs RES :=
  ⟨HM1.out.made hg2.st hg2.kp hg2.gr (by omega), hg2.text, ⟨owns_dn hg2.oa HF1.out.size, hg2.pa⟩, hvp, q1, htl, by omega, q3, Nat.le_trans HF1.out.size hg2.kp.size⟩
 have HF2 : Hid (Fr0 w w2) := Kk.all0 HF1.out (Kk.ofK hg2.kp) HKB.out
 have CX := Lib.hid hs2.left
 have HS2 := Lib.hid hs2
 have HL2 := Lib.hid hl2
 clear CG hg2 hs2 htl hvp q1 q2 q3 hl2 ht hres HM1 HF1 HL1
 go_wp2_with fail
 refine CX.out.mono ?_
 rintro e w3 ⟨L3, a3, c3, r3, x3, y3, rfl, hm3, hk3, g3, row3⟩
 have hs3 := HS2.out.next hm3 hk3 g3
 have CY := Lib.hid hs3.right
 have HS3 := Lib.hid hs3
 have HX3 := Lib.hid row3
 have HF3 : Hid (Fr0 w w3) := Kk.all0 HF2.out hk3 HKB.out
 have HL3 : Hid (L3.length ≤ 27400) := by have := g3.gr.len; have := HL2.out; show _ ≤ _; omega
 clear hs3 hm3 hk3 g3 row3 CX HS2 HF2 HL2
 go_wp2_with fail
 refine CY.out.mono ?_
 rintro e w4 ⟨L4, a4, c4, r4, x4, y4, rfl, hm4, hk4, g4, row4⟩
 have hs4 := HS3.out.next hm4 hk4 g4
 have CZ := Lib.hid hs4.self
 have HS4 := Lib.hid hs4
 have HX4 := Lib.hid (HX3.out.next HS3.out.me hk4 g4)
 have HY4 := Lib.hid row4
 have HF4 : Hid (Fr0 w w4) := Kk.all0 HF3.out hk4 HKB.out
 have HL4 : Hid (L4.length ≤ 27400) := by have := g4.gr.len; have := HL3.out; show _ ≤ _; omega
 clear hs4 hm4 hk4 g4 row4 CY HS3 HF3 HL3 HX3
 go_wp2_with fail
 refine CZ.out.mono ?_
 rintro e w5 ⟨L5, a5, c5, r5, x5, y5, rfl, hm5, hk5, g5, row5⟩
 have hs5 := HS4.out.next hm5 hk5 g5
 have hl5 : L5.length ≤ 27400 := by have := g5.gr.len; have := HL4.out; omega
 have HS5 := Lib.hid hs5
 have hx5 := HX4.out.next HS4.out.me hk5 g5
 have HY5 := Lib.hid (HY4.out.next HS4.out.me hk5 g5)
 have HZ5 := Lib.hid row5
 have HF5 : Hid (Fr0 w w5) := Kk.all0 HF4.out hk5 HKB.out
 have C1 := Lib.hid (hs5.alike hx5 (by omega))
 have HL5 := Lib.hid hl5
 clear hs5 hm5 hk5 g5 row5 CZ HS4 HF4 HL4 HX4 HY4 hx5 hl5
 go_wp2_with fail
 refine C1.out.mono ?_
 rintro e w6 ⟨L6, rfl, hm6, hk6, g6⟩
 have hs6 := HS5.out.next hm6 hk6 g6
 have hl6 : L6.length ≤ 47400 := by have := g6.gr.len; have := HL5.out; omega
 have HS6 := Lib.hid hs6
 have hy6 := HY5.out.next HS5.out.me hk6 g6
 have HZ6 := Lib.hid (HZ5.out.next HS5.out.me hk6 g6)
 have HF6 : Hid (Fr0 w w6) := Kk.all0 HF5.out hk6 HKB.out
 have C2 := Lib.hid (hs6.alike hy6 (by omega))
 have HL6 := Lib.hid hl6
 clear hs6 hm6 hk6 g6 C1 HS5 HF5 HL5 HY5 HZ5 hy6 hl6
 go_wp2_with fail
 refine C2.out.mono ?_
 rintro e w7 ⟨L7, rfl, hm7, hk7, g7⟩
 have hs7 := HS6.out.next hm7 hk7 g7
 have hl7 : L7.length ≤ 67400 := by have := g7.gr.len; have := HL6.out; omega
 have hz7 := HZ6.out.next HS6.out.me hk7 g7
 have HF7 : Hid (Fr0 w w7) := Kk.all0 HF6.out hk7 HKB.out
 have C3 := Lib.hid (hs7.alike hz7 (by omega))
 clear hs7 hm7 hk7 g7 C2 HS6 HF6 HL6 HZ6 hz7 hl7
 go_wp2_with fail
 refine C3.out.mono ?_
 rintro e w8 ⟨L8, rfl, hm8, hk8, g8⟩
 have HF8 : Hid (Fr0 w w8) := Kk.all0 HF7.out hk8 HKB.out
 clear hm8 hk8 g8 C3 HF7
 go_wp2_with fail
 go_ret
 exact ⟨rfl, HF8.out⟩
end Go.Proofs.YtgldjpldldknoaaGreatDoor

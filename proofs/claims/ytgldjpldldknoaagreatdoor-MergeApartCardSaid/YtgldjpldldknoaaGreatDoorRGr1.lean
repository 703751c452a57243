/- The walk of evergreenlaw43.great with one patch. -/
import Derived.Test.YtgldjpldldknoaaGreatDoorRFt1
import Derived.Test.YtgldjpldldknoaaGreatDoorRBof0
import Derived.Test.YtgldjpldldknoaaGreatDoorRLg1
import Derived.Test.YtgldjpldldknoaaGreatDoorRMr5
import Derived.Test.YtgldjpldldknoaaGreatDoorRRch1
set_option linter.unusedSimpArgs false
set_option linter.unusedVariables false
namespace Go.Proofs.YtgldjpldldknoaaGreatDoor
open Go.RowKit
structure GtR (B : Nat) (w w' : World) (p mb : Nat) (most : Int) (L L' : List Ent) (t : List Int) (RES : List PC) (id d : Int) (va : Option Addr) (ca : Nat) (cs : List Chg) (k : Nat) : Prop where
 st : Sto B w' p mb most L'
 kp : Kp B mb w w'
 gr : Grows L L' k
 le : k ≤ 17400
 text : BalZ L' id t d
 oa : w'.ownsRow w.heap.size 55 3 (.slice va cs.length ca) cs.length (cs.flatMap Chg.vals)
 pa : PChg L' cs RES
theorem GtR.kept0 {B : Nat} {w w' W : World} {p mb : Nat} {most : Int} {L L' : List Ent} {t : List Int} {RES : List PC} {id d : Int} {va : Option Addr} {ca : Nat} {cs : List Chg} {k : Nat} (h : GtR B w w' p mb most L L' t RES id d va ca cs k) (hf : Fr0 w' W) : GtR B w W p mb most L L' t RES id d va ca cs k :=
 ⟨h.st.kept0 hf, h.kp.trans (Kp.of0 hf), h.gr, h.le, h.text, hf.owns h.oa, h.pa⟩
end Go.Proofs.YtgldjpldldknoaaGreatDoor
/- The walk of MergeSides. -/
set_option linter.unusedSimpArgs false
set_option linter.unusedVariables false
namespace Go.Proofs.YtgldjpldldknoaaGreatDoor
open Go.RowKit
structure PtRow (base : Nat) (w : World) (L : List Ent) (a : Option Addr) (c : Nat) (cs : List Chg) (RES : List PC) : Prop where
 own : w.ownsRow base 55 3 (.slice a cs.length c) cs.length (cs.flatMap Chg.vals)
 all : PChg L cs RES
theorem PtRow.next {B base : Nat} {w w' : World} {mp kb pp tp p mb : Nat} {most : Int} {L L' : List Ent} {n : Nat} {a : Option Addr} {c : Nat} {cs : List Chg} {RES : List PC} (h : PtRow base w L a c cs RES) (hm : Me B w mp kb pp tp p mb most L) (hk : Kk B mb kb w w') (hg : Gu L L' n) : PtRow base w' L' a c cs RES :=
 ⟨own_kk1 hm hk h.own (by decide), h.all.more hg.gr hm.dok⟩
theorem PtRow.kept0 {base : Nat} {w w' : World} {L : List Ent} {a : Option Addr} {c : Nat} {cs : List Chg} {RES : List PC} (h : PtRow base w L a c cs RES) (hf : Fr0 w w') : PtRow base w' L a c cs RES := ⟨hf.owns h.own, h.all⟩
theorem PtRow.rg {base : Nat} {w : World} {L : List Ent} {a : Option Addr} {c : Nat} {cs : List Chg} {RES : List PC} (h : PtRow base w L a c cs RES) (B : Nat) : RG Chg.vals 3 B w a cs := owns_rd (vals := Chg.vals) (size := 3) (fun _ _ => rfl) h.own (by decide) (by decide)
theorem PtRow.cap {base : Nat} {w : World} {L : List Ent} {a : Option Addr} {c : Nat} {cs : List Chg} {RES : List PC} (h : PtRow base w L a c cs RES) : cs.length ≤ c := own_cap h.own
def OwX (B base : Nat) (w : World) (mp kb pp tp p mb : Nat) (most : Int) (L : List Ent) (RES : List PC) (e : Ending) (w' : World) : Prop :=
 ∃ L' a c rs va vc, e = .returned (.tuple #[.slice a rs.length c, .slice va 0 vc, .nilIface]) ∧ Me B w' mp kb pp tp p mb most L' ∧ Kk B mb kb w w' ∧ Gu L L' 0 ∧ PtRow base w' L' a c rs RES
theorem mw_OfX {B base : Nat} {w : World} {mp kb pp tp p mb : Nat} {most : Int} {L : List Ent} {id : Int} {t : List Int} {d : Int} {a b : Option Addr} {ca cb : Nat} {cs ds : List Chg} {ps qs : List PC} (hm : Me B w mp kb pp tp p mb most L) (h2 : TwoG B w L id t d a b ca cb cs ds ps qs) (hwg : ∀ g ∈ dvdG Chg.at_ Chg.n cs ds, WholeG g) {RES : List PC} (hO : mgO t (dvdG PC.at_ PC.n ps qs) = RES) (hC : mgC t (dvdG PC.at_ PC.n ps qs) = []) (hb : base ≤ w.heap.size) :
    Calls Tryz.prog 7 #[.pointer (some ⟨mp, 0, none⟩), .int .i64 id, .slice a cs.length ca, .slice b ds.length cb] w (OwX B base w mp kb pp tp p mb most L RES) := by
 refine (mw_Of hm h2 hwg hO hC).mono ?_
 rintro e w' ⟨L', v1, v2, rs, rfl, h1, h3, h4, h5, h7, va, vc, rfl⟩
 obtain ⟨a1, c1, rfl⟩ := owns_form h5
 exact ⟨L', a1, c1, rs, va, vc, rfl, h1, h3, h4, owns_dn h5 hb, h7⟩
structure Sd (B base : Nat) (w : World) (mp kb pp tp p mb : Nat) (L : List Ent) (id : Int) (t : List Int) (d : Int) (a : Option Addr) (c : Nat) (cs : List Chg) (RES : List PC) : Prop where
 me : Me B w mp kb pp tp p mb 1048576 L
 text : BalZ L id t d
 row : PtRow base w L a c cs RES
 vp : validP t.length (-1) RES = true
 lc : RES.length ≤ 8
 lt : t.length ≤ 50 * 4294967296
 li : insP RES ≤ 400
 tx : ∀ x ∈ RES, x.text.length ≤ 50
 bs : base ≤ w.heap.size
theorem Sd.next {B base : Nat} {w w' : World} {mp kb pp tp p mb : Nat} {L L' : List Ent} {id : Int} {t : List Int} {d : Int} {a : Option Addr} {c n : Nat} {cs : List Chg} {RES : List PC} (h : Sd B base w mp kb pp tp p mb L id t d a c cs RES) (hm : Me B w' mp kb pp tp p mb 1048576 L') (hk : Kk B mb kb w w') (hg : Gu L L' n) : Sd B base w' mp kb pp tp p mb L' id t d a c cs RES :=
 ⟨hm, hg.gr.balz h.me.dok h.text, h.row.next h.me hk hg, h.vp, h.lc, h.lt, h.li, h.tx, Nat.le_trans h.bs hk.size⟩
theorem Sd.left {B base : Nat} {w : World} {mp kb pp tp p mb : Nat} {L : List Ent} {id : Int} {t : List Int} {d : Int} {a : Option Addr} {c : Nat} {cs : List Chg} {RES : List PC} (h : Sd B base w mp kb pp tp p mb L id t d a c cs RES) :
    Calls Tryz.prog 7 #[.pointer (some ⟨mp, 0, none⟩), .int .i64 id, .slice a cs.length c, .slice none 0 0] w (OwX B base w mp kb pp tp p mb 1048576 L RES) := by
 have hl := h.row.all.len
 have h1 := h.lc
 have h3 := h.lt
 have h4 := h.li
 have h2 : TwoG B w L id t d a none c 0 cs [] RES [] := ⟨h.text, h.row.rg B, RG.nil _ _ _ _ _, h.row.cap, Nat.le_refl _, h.row.all, trivial, h.vp, rfl, by simp; omega, by simp only [insP]; omega⟩
 obtain ⟨q1, q2, q3⟩ := mw_left h2
 exact mw_OfX h.me h2 q1 q2 q3 h.bs
theorem Sd.right {B base : Nat} {w : World} {mp kb pp tp p mb : Nat} {L : List Ent} {id : Int} {t : List Int} {d : Int} {a : Option Addr} {c : Nat} {cs : List Chg} {RES : List PC} (h : Sd B base w mp kb pp tp p mb L id t d a c cs RES) :
    Calls Tryz.prog 7 #[.pointer (some ⟨mp, 0, none⟩), .int .i64 id, .slice none 0 0, .slice a cs.length c] w (OwX B base w mp kb pp tp p mb 1048576 L RES) := by
 have hl := h.row.all.len
 have h1 := h.lc
 have h3 := h.lt
 have h4 := h.li
 have h2 : TwoG B w L id t d none a 0 c [] cs [] RES := ⟨h.text, RG.nil _ _ _ _ _, h.row.rg B, Nat.le_refl _, h.row.cap, trivial, h.row.all, rfl, h.vp, by simp; omega, by simp only [insP]; omega⟩
 obtain ⟨q1, q2, q3⟩ := mw_right h2
 exact mw_OfX h.me h2 q1 q2 q3 h.bs
theorem Sd.alike {B base : Nat} {w : World} {mp kb pp tp p mb : Nat} {L : List Ent} {id : Int} {t : List Int} {d : Int} {a b : Option Addr} {c cb : Nat} {cs rs : List Chg} {RES : List PC} (h : Sd B base w mp kb pp tp p mb L id t d a c cs RES) (hr : PtRow base w L b cb rs RES) (hL : L.length ≤ 400000) :
    Calls Tryz.prog 8 #[.pointer (some ⟨mp, 0, none⟩), .slice b rs.length cb, .slice a cs.length c] w fun e w' => ∃ L', e = .returned (.bool true) ∧ Me B w' mp kb pp tp p mb 1048576 L' ∧ Kk B mb kb w w' ∧ Gu L L' 20000 := by
 have hl := hr.all.len
 have h1 := h.lc
 exact law43_alike h.me hr.own h.row.own hr.all h.row.all h.tx (by omega) (by omega) (by omega)
end Go.Proofs.YtgldjpldldknoaaGreatDoor
/- The walk of MergeApart. -/
set_option linter.unusedSimpArgs false
set_option linter.unusedVariables false
namespace Go.Proofs.YtgldjpldldknoaaGreatDoor
open Go.RowKit
theorem lst14x : 800 < lst 14 := by decide
def shC (k : Int) (cs : List Chg) : List Chg := cs.map fun c => ⟨c.at_ + k, c.n, c.text⟩
theorem shC_len (k : Int) (cs : List Chg) : (shC k cs).length = cs.length := List.length_map ..
theorem PChg.sh {L : List Ent} (k : Int) : ∀ {cs : List Chg} {ps : List PC}, PChg L cs ps → PChg L (shC k cs) (shP k ps)
 | [], [], _ => trivial
 | c :: cs, p :: ps, h => ⟨⟨by show c.at_ + k = p.at_ + k; rw [h.1.1], h.1.2.1, h.1.2.2⟩, PChg.sh k h.2⟩
 | [], _ :: _, h => h.elim
 | _ :: _, [], h => h.elim
theorem shC_snoc (k : Int) (cs : List Chg) (j : Nat) (h : j < cs.length) : shC k (cs.take (j + 1)) = shC k (cs.take j) ++ [⟨cs[j].at_ + k, cs[j].n, cs[j].text⟩] := by
 unfold shC
 rw [List.take_succ_eq_append_getElem h, List.map_append]
 rfl
structure ApL (w wr : World) (v1 v2 : Value) (k1 k2 : Int) (cs : List Chg) (j : Nat) : Prop where
 fr : Fr0 w wr
 o1 : wr.ownsRow w.heap.size 55 3 v1 (shC k1 (cs.take j)).length ((shC k1 (cs.take j)).flatMap Chg.vals)
 o2 : wr.ownsRow w.heap.size 55 3 v2 (shC k2 (cs.take j)).length ((shC k2 (cs.take j)).flatMap Chg.vals)
 dj : ∀ k, v1.ownBlock = some k → v2.ownBlock = some k → False
theorem ap_length {B : Nat} {w : World} {p mb : Nat} {most : Int} {L : List Ent} {cs : List Chg} {ps : List PC} {a : Option Addr} {ca : Nat} {T : Nat} (hS : Sto B w p mb most L) (hO : SOk L) (hD : DOk L) (hA : RG Chg.vals 3 B w a cs) (hP : PChg L cs ps) (hv : validP T (-1) ps = true) (hT : T + insP ps ≤ 1152921504606846976) (hc : cs.length ≤ 1000) :
    Calls Tryz.prog 13 #[.pointer (some ⟨p, 0, none⟩), .int .i64 T, .slice a cs.length ca] w fun e w' => e = .returned (.tuple #[.int .i64 (T - delP ps + insP ps), .nilIface]) ∧ Fr0 w w' := by
 obtain ⟨sv, hSt, _⟩ := hS
 have hfm := hP.valid hD hO (length := T) (-1)
 rw [hv] at hfm
 have hdn := delP_nn hv
 have := pat_Length_ok hSt hO T (by omega) (by omega) a ca cs (chgs_of_rg hA) (by omega) hP.known hfm (by rw [hP.del, hP.ins hD hO]; omega)
 rw [hP.del, hP.ins hD hO] at this
 exact this
theorem ap_step1 {w wr w4 : World} {v1 v2 : Value} {k1 k2 : Int} {cs : List Chg} {j : Nat} {o o2 : Obj} (hr : ApL w wr v1 v2 k1 k2 cs j) (hg : ((wr.alloc o).alloc o2).grownBy w4 v1.ownBlock) :
    Fr0 w w4 ∧ w4.ownsRow w.heap.size 55 3 v2 (shC k2 (cs.take j)).length ((shC k2 (cs.take j)).flatMap Chg.vals) := by
 refine ⟨Fr.grown ((hr.fr.alloc o).alloc o2) hg (fun k hk hlt => by have := (hr.o1.lt k hk).1; omega), ?_⟩
 have h2 := (((Fr0.refl wr).alloc o).alloc o2).owns hr.o2
 exact Fr.owns (Fr.grown (S := fun k => v1.ownBlock = some k) (Fr.refl _ _) hg (fun k hk _ => hk)) h2 (fun k hk h => hr.dj k h hk)
theorem ap_plain (n half : Nat) (m : Int) (P Q : List PC) (hh : half + 1 ≤ n) (hm0 : 0 ≤ m) (vp : validP (half : Int) (-1) P = true) (vq : validP ((n : Int) - half - 1) (-1) Q = true) (hm : (n : Int) - delP P + insP P = m) :
    validP n (-1) (P ++ shP ((half : Int) + 1) Q) = true ∧ (btw n 0 [] (patG embC (patG embC (runC 0 n) 0 P) 0 (shP ((half : Int) + 1 + m - n) Q)) = P ++ shP ((half : Int) + 1) Q ∧ validP m (-1) (shP ((half : Int) + 1 + m - n) Q) = true ∧ True) ∧ validP n (-1) (shP ((half : Int) + 1) Q) = true ∧ ∀ x ∈ P, ∀ y ∈ shP ((half : Int) + 1) Q, x.at_ + x.n < y.at_ := by
 have e : ((half + 1 : Nat) : Int) = (half : Int) + 1 := by omega
 have hdl := delP_le vp (by omega) (by omega) (by omega)
 obtain ⟨h1, h2⟩ := btw_late n (half + 1) hh (by omega) P Q (by rw [e, show (half : Int) + 1 - 1 = half by omega]; exact vp) (by rw [e, show (n : Int) - (half + 1) = n - half - 1 by omega]; exact vq)
 rw [e] at h1 h2
 rw [show (half : Int) + 1 - delP P + insP P = half + 1 + m - n by omega] at h2
 refine ⟨h1, ⟨h2, ?_, trivial⟩, ?_, ?_⟩
 · have := shP_valid ((n : Int) - half - 1) ((half : Int) + 1 + m - n) Q (-1) (-1) vq (.inl (by omega)) (by omega)
   rwa [show (n : Int) - half - 1 + (half + 1 + m - n) = m by omega] at this
 · have := shP_valid ((n : Int) - half - 1) ((half : Int) + 1) Q (-1) (-1) vq (.inl (by omega)) (by omega)
   rwa [show (n : Int) - half - 1 + (half + 1) = n by omega] at this
 · intro x hx y hy
   obtain ⟨q, hq, rfl⟩ := List.mem_map.1 hy
   have a := (validP_asc vp).2 x hx
   have b := (validP_asc vq).2 q hq
   show x.at_ + x.n < q.at_ + (half + 1)
   omega
theorem ap_lens (n half : Nat) (m : Int) (P Q2 : List PC) (hh : half + 1 ≤ n) (hm0 : 0 ≤ m) (vp : validP (half : Int) (-1) P = true) (hm : (n : Int) - delP P + insP P = m) (v2 : validP m (-1) Q2 = true) (hm2 : m ≤ 1152921504606846000) (hi : insP Q2 ≤ 400) :
    ((patG embC (runC 0 n) 0 P).length : Int) ≤ 1152921504606846976 ∧ validP (patG embC (runC 0 n) 0 P).length (-1) Q2 = true ∧ ((patG embC (patG embC (runC 0 n) 0 P) 0 Q2).length : Int) ≤ 1152921504606846976 := by
 have e1 := patG_len embC (runC 0 n) P 0 (-1) (by rw [runC_len]; exact validP_le (by omega) vp) (by omega) (by omega) (by omega)
 rw [runC_len] at e1
 have e2 : ((patG embC (runC 0 n) 0 P).length : Int) = m := by omega
 have v3 : validP (patG embC (runC 0 n) 0 P).length (-1) Q2 = true := by rw [e2]; exact v2
 have e3 := patG_len embC (patG embC (runC 0 n) 0 P) Q2 0 (-1) v3 (by omega) (by omega) (by omega)
 have hd := delP_nn v2
 exact ⟨by omega, v3, by omega⟩
theorem ap_cost {a b : Nat} (ha : a ≤ 8) (hb : b ≤ 8) : (3 * a + 3 * b + 4) * (14 * 13 + 2) ≤ 9568 := by omega
theorem kb_not {B : Nat} {w : World} {mp kb pp tp p mb : Nat} {most : Int} {L : List Ent} (hm : Me B w mp kb pp tp p mb most L) {k : Nat} {cs : Array Value} {t : TypeId} {f : Nat × Nat} (hb : w.heap[k]? = some (.cells cs t f)) (e : k = kb) : False := by
 obtain ⟨T, kn, q⟩ := hm
 subst e
 rw [q.kmap] at hb
 cases hb
theorem ap_next {w wr w4 w5 : World} {v1 v2 v1' v2' : Value} {k1 k2 : Int} {cs : List Chg} {j : Nat} {o o2 o3 : Obj} {y1 y2 : Chg} (hr : ApL w wr v1 v2 k1 k2 cs j) (hg : ((wr.alloc o).alloc o2).grownBy w4 v1.ownBlock) (hat : v1'.ownBlock = v1.ownBlock ∨ v1'.ownBlock = some ((wr.alloc o).heap.size + 1))
    (hO : w4.ownsRow w.heap.size 55 3 v1' (shC k1 (cs.take j) ++ [y1]).length ((shC k1 (cs.take j) ++ [y1]).flatMap Chg.vals)) (hg5 : (w4.alloc o3).grownBy w5 v2.ownBlock) (hat5 : v2'.ownBlock = v2.ownBlock ∨ v2'.ownBlock = some (w4.heap.size + 1))
    (hO5 : w5.ownsRow w.heap.size 55 3 v2' (shC k2 (cs.take j) ++ [y2]).length ((shC k2 (cs.take j) ++ [y2]).flatMap Chg.vals)) (e1 : shC k1 (cs.take (j + 1)) = shC k1 (cs.take j) ++ [y1]) (e2 : shC k2 (cs.take (j + 1)) = shC k2 (cs.take j) ++ [y2]) : ApL w w5 v1' v2' k1 k2 cs (j + 1) := by
 obtain ⟨f4, r4⟩ := ap_step1 hr hg
 have dj : ∀ k, v1'.ownBlock = some k → v2.ownBlock = some k → False := by
  intro k h1 h2
  rcases hat with h | h
  · exact hr.dj k (h ▸ h1) h2
  · have := (hr.o2.lt k h2).2
    rw [h] at h1
    simp at h1
    omega
 refine ⟨Fr.grown (f4.alloc o3) hg5 (fun k hk hlt => by have := (r4.lt k hk).1; omega), ?_, ?_, ?_⟩
 · rw [e1]
   exact Fr.owns (Fr.grown (S := fun k => v2.ownBlock = some k) (Fr.refl _ _) hg5 (fun k hk _ => hk)) (((Fr0.refl w4).alloc o3).owns hO) (fun k hk h => dj k hk h)
 · rw [e2]; exact hO5
 · intro k h1 h2
   rcases hat5 with h | h
   · exact dj k h1 (h ▸ h2)
   · have := (hO.lt k h1).2
     rw [h] at h2
     simp at h2
     omega
set_option maxRecDepth 100000 in
set_option maxHeartbeats 8000000 in
theorem law_MergeApart {w : World} (hdeb : Deb w.heap.size w) (s : ByteArray) {tm : Int} (h0 : 0 ≤ tm) (h1 : tm < 4294967296) {a b : Option Addr} {ka kc : Nat} {ps qs : List PS} (hA : RG PS.vals 3 w.heap.size w a ps) (hB : RG PS.vals 3 w.heap.size w b qs) :
    Calls Tryz.prog 4 #[.string s, .int .u32 tm, .slice a ps.length ka, .slice b qs.length kc] w fun e w' => e = .returned (.bool true) ∧ Fr0 w w' := by
 have CB := Lib.hid (law43_begun hdeb)
 obtain ⟨t, ht⟩ : ∃ t, (sbs s).take 50 = t := ⟨_, rfl⟩
 have htl : t.length ≤ 50 := by rw [← ht, List.length_take]; omega
 obtain ⟨T, hTT⟩ : ∃ T, reps t tm.toNat = T := ⟨_, rfl⟩
 have hTl : T.length ≤ 50 * 4294967296 := by
  rw [← hTT, reps_len]
  calc _ ≤ 4294967296 * 50 := Nat.mul_le_mul (by omega) htl
   _ ≤ _ := by omega
 have HA := Lib.hid hA
 have HB := Lib.hid hB
 have HT := Lib.hid ht
 have HTT := Lib.hid hTT
 have HTL := Lib.hid htl
 have HTTL := Lib.hid hTl
 have hcv : IntKind.i64.wrap tm = tm := IntWalk.i64_in _ (by omega)
 clear hA hB hdeb ht hTT htl hTl
 go_enter Tryz.func4, Tryz.ntmps4
 go_wp2_with fail
 refine CB.out.mono ?_
 rintro e w0 ⟨mp, kb, pp, tp, p, mb, L, rfl, hm0, hl0, hf0, hkb⟩
 have HM0 := Lib.hid hm0
 have HF0 := Lib.hid hf0
 have HL0 := Lib.hid hl0
 have HKB := Lib.hid hkb
 have hr0 : Room w.heap.size w0 p mb 1048576 L 28000 := hm0.room (by omega) (by omega)
 have HR0 := Lib.hid hr0
 clear CB hm0 hf0 hl0 hkb hr0
 go_upto_region 4 with fail
 go_cut [12, 13] (CtPost w.heap.size w0 p mb 1048576 L t)
 case first =>
  by_cases hs : (s.size : Int) ≤ (50 : Int)
  · have ex : sbs s = t := by rw [← HT.out]; exact (sbs_all50 s hs).symm
    obtain ⟨ccap, cf, hconv, hcap1, hcap2⟩ := conv_bytes w0 s
    have hcap3 := hcap2 (by unfold maxLen; omega)
    unfold maxLen at hcap3
    have CT := Lib.hid (sto_Text50 (HR0.out.less (m := 100) (by omega)) (Fr0.refl w0) s (by omega) ccap cf hcap1 hcap3 w0.heap.size rfl)
    rw [ex] at CT
    clear hcap2 ex HA HB HT HTT HTL HTTL HR0 HM0 HF0 HL0 HKB
    go_wp2_with fail
    (with_reducible refine CT.out.mono ?_)
    rintro e w3 ⟨v, rfl, hv⟩
    have HV := Lib.hid hv
    clear hv CT hconv
    go_wp2_with fail
    go_meet
    exact HV.out
  · have hs2 : (50 : Int) ≤ (s.size : Int) := by omega
    have hz := size_cut50 s hs2
    have ex : sbs (s.extract 0 50) = t := by rw [← HT.out]; exact sbs_cut50 s 50 (by omega)
    obtain ⟨ccap, cf, hconv, hcap1, hcap2⟩ := conv_bytes w0 (s.extract 0 50)
    have hcap3 := hcap2 (by unfold maxLen; omega)
    unfold maxLen at hcap3
    have CT := Lib.hid (sto_Text50 (HR0.out.less (m := 100) (by omega)) (Fr0.refl w0) (s.extract 0 50) (by omega) ccap cf hcap1 hcap3 w0.heap.size rfl)
    rw [hz] at CT hconv hcap1
    rw [ex] at CT
    clear hcap2 hz ex HA HB HT HTT HTL HTTL HR0 HM0 HF0 HL0 HKB
    go_wp2_with fail
    (with_reducible refine CT.out.mono ?_)
    rintro e w3 ⟨v, rfl, hv⟩
    have HV := Lib.hid hv
    clear hv CT hconv
    go_wp2_with fail
    go_meet
    exact HV.out
 case rest =>
 obtain ⟨rfl, L1, z, dz, k1, rfl, hS1, hK1, g1, b1, hk1⟩ := hcut
 rename World => w1
 have hr1 : Room w.heap.size w1 p mb 1048576 L1 27900 := HR0.out.next (k := 27900) hS1 hK1 g1 (by omega)
 have CRp := Lib.hid (bal_Repeat (hr1.less (m := 15677) (by omega)) b1 h0 (by omega) (by have := HTL.out; omega) (by rw [HTT.out]; have := HTTL.out; omega))
 rw [HTT.out] at CRp
 have HR1 := Lib.hid hr1
 have HK1 := Lib.hid hK1
 have HG1 := Lib.hid g1
 clear hS1 hK1 g1 b1 hr1 HR0
 go_wp2_with fail
 refine CRp.out.mono ?_
 rintro e w2 ⟨L2, id, d, k2, rfl, hS2, hK2, g2, b2, hk2⟩
 have hr2 : Room w.heap.size w2 p mb 1048576 L2 12200 := HR1.out.next (k := 12200) hS2 hK2 g2 (by omega)
 have hln := b2.len hr2.dok hr2.sok
 have CW := Lib.hid (sto_Weight hS2 id b2.known)
 rw [← hln] at CW
 have HR2 := Lib.hid hr2
 have HK2 := Lib.hid (HK1.out.trans hK2)
 have HG2 := Lib.hid (HG1.out.trans g2 (Nat.le_refl _))
 have HB2 := Lib.hid b2
 have hK12 : Hid (k1 + k2 ≤ 15777) := by show _ ≤ _; omega
 generalize (entAt L2 id).wt = wt at *
 clear hS2 hK2 g2 b2 hr2 hln hk1 hk2 CRp HK1 HG1 HR1
 go_wp2_with fail
 refine CW.out.mono ?_
 rintro e w3 ⟨rfl, f3⟩
 obtain ⟨n, hn⟩ : ∃ n, T.length = n := ⟨_, rfl⟩
 rw [hn]
 have HN := Lib.hid hn
 have hnl : n ≤ 50 * 4294967296 := by have := HTTL.out; omega
 clear hn
 go_upto_region 7 with fail
 have F3 : Fr0 w2 (w3.alloc (.cells #[.int .i64 n, .int .i64 wt.lines, .int .i64 wt.head, .int .i64 wt.tail, .int .u64 wt.val, .int .u64 wt.scale] 47 (0, 0))) := f3.alloc _
 have b3 := alloc_at w3 (.cells #[.int .i64 n, .int .i64 wt.lines, .int .i64 wt.head, .int .i64 wt.tail, .int .u64 wt.val, .int .u64 wt.scale] 47 (0, 0)) w3.heap.size rfl
 generalize w3.alloc (.cells #[.int .i64 n, .int .i64 wt.lines, .int .i64 wt.head, .int .i64 wt.tail, .int .u64 wt.val, .int .u64 wt.scale] 47 (0, 0)) = W3 at *
 generalize w3.heap.size = K3 at *
 have hK3 := HK2.out.trans (Kp.of0 F3)
 obtain ⟨c3, _, _, _, _, _, l3, _⟩ := cells6t b3
 obtain ⟨half, hhalf⟩ : ∃ half, n / 2 = half := ⟨_, rfl⟩
 have qh : (n : Int) / 2 = (half : Int) := by omega
 have HH := Lib.hid hhalf
 have CF := Lib.hid (law43_fit (T := (half : Int)) (cap := ka) (HR2.out.kept0 F3 |>.less (m := 800) (by omega)) (HA.out.kept0 HF0.out |>.keptK hK3) (by omega) (by omega))
 have HR3 := Lib.hid (HR2.out.kept0 F3)
 have HK3 := Lib.hid hK3
 have HBL := Lib.hid b3
 clear F3 f3 hK3 b3 CW HR2 HK2 hhalf
 go_wp2_with fail
 refine CF.out.mono ?_
 rintro e w4 ⟨L4, v4, cs, k4, rfl, hS4, hK4, g4, hk4, ho4, hp4⟩
 have hr4 : Room w.heap.size w4 p mb 1048576 L4 11400 := HR3.out.next (k := 11400) hS4 hK4 g4 (by omega)
 have hb4 := hK4.cells _ _ _ _ HBL.out (by decide) (by decide)
 have hK4' := HK3.out.trans hK4
 have ho4' := owns_dn ho4 (Nat.le_trans (Nat.le_trans HF0.out.size HK3.out.size) (Nat.le_refl _))
 obtain ⟨va, ca, rfl, _, _⟩ := own_rg ho4' w.heap.size
 obtain ⟨P, hP⟩ : ∃ P, ftL (half : Int) 8 0 ps = P := ⟨_, rfl⟩
 rw [hP] at hp4
 have HBL4 := Lib.hid hb4
 have HR4 := Lib.hid hr4
 have HK4 := Lib.hid hK4'
 have HG4 := Lib.hid (HG2.out.trans g4 (Nat.le_refl _))
 have HB4 := Lib.hid (g4.balz HR3.out.dok HB2.out)
 have HO4 := Lib.hid ho4'
 have HP4 := Lib.hid hp4
 have HPP := Lib.hid hP
 have hK14 : Hid (k1 + k2 + k4 ≤ 16577) := by have := hK12.out; show _ ≤ _; omega
 obtain ⟨c4, _, _, _, _, _, l4, _⟩ := cells6t hb4
 have hh2 : half ≤ n ∧ (n : Int) - half - 1 ≤ n ∧ -1 ≤ (n : Int) - half - 1 := by have := HH.out; omega
 have CN := Lib.hid (law43_fit (T := (n : Int) - half - 1) (ps := qs) (cap := kc) (hr4.less (m := 800) (by omega)) (HB.out.kept0 HF0.out |>.keptK hK4') (by omega) (by omega))
 clear hS4 hK4 hK4' g4 hr4 ho4 ho4' hp4 hk4 CF HR3 HK3 HG2 HB2 c3 l3 HBL hK12 hb4 hP qh
 go_wp2_with fail
 refine CN.out.mono ?_
 rintro e w5 ⟨L5, v5, ds, k5, rfl, hS5, hK5, g5, hk5, ho5, hp5⟩
 have ho5' := owns_dn ho5 (Nat.le_trans HF0.out.size HK4.out.size)
 obtain ⟨vb, cb, rfl, _, _⟩ := own_rg ho5' w.heap.size
 obtain ⟨Q, hQ⟩ : ∃ Q, ftL ((n : Int) - half - 1) 8 0 qs = Q := ⟨_, rfl⟩
 rw [hQ] at hp5
 have hb5 := hK5.cells _ _ _ _ HBL4.out (by decide) (by decide)
 obtain ⟨c5, _, _, _, _, _, l5, _⟩ := cells6t hb5
 have hl5 : L5.length ≤ 28000 := by have := HG4.out.len; have := g5.len; have := hK14.out; have := HL0.out; omega
 have hm5 := HM0.out.made hS5 (HK4.out.trans hK5) (HG4.out.trans g5 (Nat.le_refl _)) (by omega)
 have HM5 := Lib.hid hm5
 have HF5 : Hid (Fr0 w w5) := Kk.all0 HF0.out (Kk.ofK (HK4.out.trans hK5)) HKB.out
 have HB5 := Lib.hid (g5.balz HR4.out.dok HB4.out)
 have HOA := Lib.hid (hK5.owns HO4.out (by decide) (by decide))
 have HOB := Lib.hid ho5'
 have HPA := Lib.hid (HP4.out.more g5 HR4.out.dok)
 have HPB := Lib.hid hp5
 have HBL5 := Lib.hid hb5
 have HQQ := Lib.hid hQ
 have HL5 := Lib.hid hl5
 clear hS5 hK5 g5 hk5 ho5 ho5' hp5 hb5 hl5 hm5 hQ CN HR4 HK4 HG4 HB4 HO4 HP4 HBL4 hK14 c4 l4 HM0 HL0 HA HB HT HTT HTL HF0
 by_cases hn0 : n = 0
 · have zn : ((n : Int) == 0) = true := by rw [hn0]; rfl
   clear HH HN hh2 hn0 HTTL
   go_wp2_with fail
   go_ret
   exact ⟨rfl, HF5.out⟩
 · have zn : ((n : Int) == 0) = false := by rw [beq_eq_false_iff_ne]; omega
   obtain ⟨p1, p2, p3⟩ := ft_len (half : Int) 8 0 ps
   obtain ⟨q1, q2, q3⟩ := ft_len ((n : Int) - half - 1) 8 0 qs
   have vp := ft_valid (half : Int) 8 0 (-1) ps (by omega) (by omega)
   have vq := ft_valid ((n : Int) - half - 1) 8 0 (-1) qs (by omega) (by omega)
   rw [HPP.out] at p1 p2 p3 vp
   rw [HQQ.out] at q1 q2 q3 vq
   have hdn := delP_nn vp
   have hdl := delP_le vp (by omega) (by omega) (by omega)
   obtain ⟨m, hm⟩ : ∃ m, (n : Int) - delP P + insP P = m := ⟨_, rfl⟩
   have hlc := HPA.out.len
   have hld := HPB.out.len
   have CL := Lib.hid (ap_length (ca := ca) HM5.out.st HM5.out.sok HM5.out.dok (owns_rd (B := w.heap.size) (vals := Chg.vals) (size := 3) (fun _ _ => rfl) HOA.out (by decide) (by decide)) HPA.out (T := n) (validP_le (by omega) vp) (by omega) (by omega))
   rw [hm] at CL
   have hm0 : 0 ≤ m ∧ m ≤ n + 400 ∧ (half : Int) + 1 + m - n = (half : Int) + 1 - delP P + insP P ∧ 0 ≤ (half : Int) + 1 + m - n := by omega
   obtain ⟨hm1, hm2, hm3, hm4⟩ := hm0
   have HM3 := Lib.hid hm3
   have HMM := Lib.hid hm
   have VP := Lib.hid vp
   have VQ := Lib.hid vq
   have P3 := Lib.hid p3
   have Q3 := Lib.hid q3
   have HLC := Lib.hid hlc
   have HLD := Lib.hid hld
   have P12 := Lib.hid (And.intro p1 p2)
   have Q12 := Lib.hid (And.intro q1 q2)
   have HHN : Hid (half + 1 ≤ n) := by have := HH.out; show _ ≤ _; omega
   clear vp vq p1 p2 p3 q1 q2 q3 hdn hdl hm hm3 hlc hld hn0
   go_wp2_with fail
   refine CL.out.mono ?_
   rintro e w6 ⟨rfl, f6⟩
   have hb6 := f6.kept HBL5.out
   have HBL6 := Lib.hid hb6
   have HF6 := Lib.hid (HF5.out.trans f6)
   have HM6 := Lib.hid (HM5.out.kept0 f6)
   have HOA6 := Lib.hid (f6.owns HOA.out)
   have HOB6 := Lib.hid (f6.owns HOB.out)
   have hdl2 : ds.length ≤ 8 := by rw [HLD.out]; exact Q12.out.1
   have H0 : Hid (ApL w6 w6 (.slice none 0 0) (.slice none 0 0) ((half : Int) + 1) ((half : Int) + 1 + m - n) ds 0) := ⟨Fr0.refl _, World.ownsRow_nil _ _ _ _, World.ownsRow_nil _ _ _ _, fun k hk _ => by cases hk⟩
   clear f6 hb6 CL HBL5 HF5 HM5 HOA HOB c5 l5
   go_wp2_with fail
   go_loopw [25, 26, 132] (fun v1 v2 i wr => ∃ j : Nat, j ≤ ds.length ∧ i = .int .i64 j ∧ ApL w6 wr v1 v2 ((half : Int) + 1) ((half : Int) + 1 + m - n) ds j) (fun _ _ i _ => ds.length - (intOf i).toNat)
   case atStart => exact ⟨0, Nat.zero_le _, rfl, H0.out⟩
   case round =>
    clear H0
    obtain ⟨j, hj, rfl, hr⟩ := hrel
    have hbr := hr.fr.kept HBL6.out
    by_cases hlt : j < ds.length
    · obtain ⟨b1, o1, cp1, e1, lb1, x0, x1, x2⟩ := read_chg (hr.fr.owns HOB6.out) j hlt
      simp only [Value.slice.injEq, true_and] at e1
      obtain ⟨rfl, rfl⟩ := e1
      obtain ⟨b0, bn, bt⟩ := chg_bounds HPB.out VQ.out ds[j] (List.getElem_mem hlt)
      have hs1 := shC_snoc ((half : Int) + 1) ds j hlt
      have hs2 := shC_snoc ((half : Int) + 1 + m - n) ds j hlt
      generalize ds[j] = c at *
      rw [show c.at_ + ((half : Int) + 1) = c.at_ + half + 1 by omega] at hs1
      rw [show c.at_ + ((half : Int) + 1 + m - n) = c.at_ + half + 1 + m - n by omega] at hs2
      have ll1 : (shC ((half : Int) + 1) (ds.take j)).length ≤ 8 := by rw [shC_len, List.length_take]; omega
      have ll2 : (shC ((half : Int) + 1 + m - n) (ds.take j)).length ≤ 8 := by rw [shC_len, List.length_take]; omega
      have HS1 := Lib.hid hs1
      have HS2 := Lib.hid hs2
      have HRR := Lib.hid hr
      have hbs : w6.heap.size ≤ wr.heap.size := hr.fr.size
      have ho1 := ((Fr0.refl wr).alloc (.cells #[.int .i64 c.at_, .int .i64 c.n, .int .i64 c.text] 55 (0, 0))).owns hr.o1
      have hw1 := alloc_at wr (.cells #[.int .i64 c.at_, .int .i64 c.n, .int .i64 c.text] 55 (0, 0)) _ rfl
      have hbw := ((Fr0.refl wr).alloc (.cells #[.int .i64 c.at_, .int .i64 c.n, .int .i64 c.text] 55 (0, 0))).kept hbr
      clear hs1 hs2 hbr hr
      have hnb : u25.ownBlock ≠ some wr.heap.size := fun h => by have := (HRR.out.o1.lt _ h).2; omega
      have HBW := Lib.hid hbw
      have HW1 := Lib.hid hw1
      have HO1 := Lib.hid ho1
      have HNB := Lib.hid hnb
      obtain ⟨d0, d1, d2, _, ld⟩ := cells3 hw1
      have hbs2 : w6.heap.size ≤ (wr.alloc (.cells #[.int .i64 c.at_, .int .i64 c.n, .int .i64 c.text] 55 (0, 0))).heap.size := by simp; omega
      clear ho1 hw1 hbw hnb hbs
      go_upto_region 18 with (at_builtin; go_loud (refine wpList_pushG rt_chg rfl _ _ rfl w6.heap.size _ (shC ((half : Int) + 1) (ds.take j)) rfl HO1.out hbs2 55 ⟨c.at_ + half + 1, c.n, c.text⟩ #[.int .i64 (c.at_ + half + 1), .int .i64 c.n, .int .i64 c.text] rfl rfl (by simp [Chg.vals, Value.oneCell']) 1 (wr.heap.size + 1) (by simp) rfl (by omega) (by omega) ?_); intro v4 w4 hO4 hg4 hat4)
      obtain ⟨f4, r4⟩ := ap_step1 HRR.out hg4
      have hr4 := (hg4.block wr.heap.size (by simp; omega) (fun e => HNB.out e.symm)).trans ((alloc_lt _ _ _ ld).trans HW1.out)
      have hb4 := f4.kept HBL6.out
      clear d0 d1 d2 ld
      obtain ⟨d0, d1, d2, _, ld⟩ := cells3 hr4
      obtain ⟨c6, _, _, _, _, _, l6, _⟩ := cells6t hb4
      have HO4 := Lib.hid hO4
      have HG4 := Lib.hid hg4
      have HA4 := Lib.hid hat4
      have HR4 := Lib.hid r4
      have hbs4 : w6.heap.size ≤ w4.heap.size := f4.size
      clear hO4 hg4 hat4 f4 r4 hr4 hb4 HNB HW1 HO1 HBW
      go_wp2_with (at_builtin; refine wpList_pushG rt_chg rfl _ _ rfl w6.heap.size _ (shC ((half : Int) + 1 + m - n) (ds.take j)) rfl HR4.out hbs4 55 ⟨c.at_ + half + 1 + m - n, c.n, c.text⟩ #[.int .i64 (c.at_ + half + 1 + m - n), .int .i64 c.n, .int .i64 c.text] rfl rfl (by simp [Chg.vals, Value.oneCell']) 1 _ rfl rfl (by omega) (by omega) ?_; intro v5 w5 hO5 hg5 hat5)
      have HX := Lib.hid (ap_next HRR.out HG4.out HA4.out HO4.out hg5 hat5 hO5 HS1.out HS2.out)
      clear hO5 hg5 hat5 HO4 HG4 HA4 HR4 HRR HS1 HS2 c6 l6 d0 d1 d2 ld
      go_wp2_with fail
      go_roundw
      case rel => exact ⟨j + 1, by omega, by go_num, HX.out⟩
      case measure => simp [intOf]; omega
    · have hje : j = ds.length := by omega
      obtain ⟨hfr, ho1, ho2, _⟩ := hr
      rw [hje, List.take_length] at ho1 ho2
      obtain ⟨D1, hD1⟩ : ∃ D1, shC ((half : Int) + 1) ds = D1 := ⟨_, rfl⟩
      obtain ⟨D2, hD2⟩ : ∃ D2, shC ((half : Int) + 1 + m - n) ds = D2 := ⟨_, rfl⟩
      rw [hD1] at ho1
      rw [hD2] at ho2
      obtain ⟨a1, c1, rfl⟩ := owns_form ho1
      obtain ⟨a2, c2, rfl⟩ := owns_form ho2
      obtain ⟨vpq, hbt, vq1, hap⟩ := ap_plain n half m P Q HHN.out hm1 VP.out VQ.out HMM.out
      obtain ⟨Q1, hQ1⟩ : ∃ Q1, shP ((half : Int) + 1) Q = Q1 := ⟨_, rfl⟩
      obtain ⟨Q2, hQ2⟩ : ∃ Q2, shP ((half : Int) + 1 + m - n) Q = Q2 := ⟨_, rfl⟩
      have hp1 : PChg L5 D1 Q1 := by rw [← hD1, ← hQ1]; exact HPB.out.sh _
      have hp2 : PChg L5 D2 Q2 := by rw [← hD2, ← hQ2]; exact HPB.out.sh _
      have i1 : insP Q1 = insP Q ∧ Q1.length = Q.length := by rw [← hQ1]; exact ⟨shP_ins _ _, shP_len _ _⟩
      have i2 : insP Q2 = insP Q ∧ Q2.length = Q.length := by rw [← hQ2]; exact ⟨shP_ins _ _, shP_len _ _⟩
      have j1 : ∀ x ∈ Q1, x.text.length ≤ 50 := by rw [← hQ1]; exact shP_mem (P := fun x => x.text.length ≤ 50) (fun c hc => Q3.out c hc)
      have j2 : ∀ x ∈ Q2, x.text.length ≤ 50 := by rw [← hQ2]; exact shP_mem (P := fun x => x.text.length ≤ 50) (fun c hc => Q3.out c hc)
      rw [hQ1] at vpq hbt vq1 hap
      rw [hQ2] at hbt
      have hp12 := P12.out
      have hq12 := Q12.out
      have hla := HPA.out.len
      have hl1 := hp1.len
      have hl2 := hp2.len
      have hmr := HM6.out.kept0 hfr
      have hoa := hfr.owns HOA6.out
      have hTn := HN.out
      have h2 : TwoG w.heap.size wr L5 id T d va a1 ca c1 cs D1 P Q1 :=
       ⟨HB5.out, owns_rd (vals := Chg.vals) (size := 3) (fun _ _ => rfl) hoa (by decide) (by decide), owns_rd (vals := Chg.vals) (size := 3) (fun _ _ => rfl) ho1 (by decide) (by decide), own_cap hoa, own_cap ho1, HPA.out, hp1, by rw [hTn]; exact validP_le (by omega) VP.out, by rw [hTn]; exact vq1, by omega, by omega⟩
      obtain ⟨r1, r2, r3⟩ := mw_apart h2 hap
      have CX := Lib.hid (mw_OfX hmr h2 r1 r2 r3 (base := w.heap.size) (Nat.le_trans HF6.out.size hfr.size))
      have HFR := Lib.hid (HF6.out.trans hfr)
      have HMR := Lib.hid hmr
      have HOA7 := Lib.hid hoa
      have HO27 := Lib.hid ho2
      have HP2 := Lib.hid hp2
      have HVPQ := Lib.hid vpq
      have HBT := Lib.hid hbt
      have HBR := Lib.hid hbr
      have HI1 := Lib.hid i1
      have HI2 := Lib.hid i2
      have HJ1 := Lib.hid j1
      have HJ2 := Lib.hid j2
      clear vpq hbt vq1 hap hp1 hp2 i1 i2 j1 j2 hp12 hq12 hla hl1 hl2 hmr hoa hTn h2 r1 r2 r3 ho1 ho2 hfr hD1 hD2 hQ1 hQ2 hje hbr HF6 HM6 HOA6 HOB6 HBL6 hdl2
      go_wp2_with fail
      refine CX.out.mono ?_
      rintro e w7 ⟨L7, a7, c7, rs, y7, z7, rfl, hm7, hk7, g7, row7⟩
      have hb7 := hk7.cells _ _ _ _ HBR.out (by decide) (fun e => kb_not HMR.out HBR.out e)
      obtain ⟨c8, _, _, _, _, _, l8, _⟩ := cells6t hb7
      have hl7 : L7.length ≤ 28000 := by have := g7.gr.len; have := HL5.out; omega
      have hoa7 := own_kk1 HMR.out hk7 HOA7.out (by decide)
      have ho27 := own_kk1 HMR.out hk7 HO27.out (by decide)
      have hpa7 := HPA.out.more g7.gr HMR.out.dok
      have hp27 := HP2.out.more g7.gr HMR.out.dok
      have hp12 := P12.out
      have hq12 := Q12.out
      have hi2 := HI2.out
      have hla := hpa7.len
      have hl2 := hp27.len
      obtain ⟨z1, z2, z3⟩ := ap_lens n half m P Q2 HHN.out hm1 VP.out HMM.out (HBT.out.2.1) (by omega) (by omega)
      have CC := Lib.hid (pat_Compose_ok (B := w.heap.size) (pcap := ca) (qcap := c2) 50 13 n ((hm7.room (n := 9568) (by omega) (by omega)).less (ap_cost (by omega) (by omega))) (by omega) (owns_rd (vals := Chg.vals) (size := 3) (fun _ _ => rfl) hoa7 (by decide) (by decide)) hpa7 (owns_rd (vals := Chg.vals) (size := 3) (fun _ _ => rfl) ho27 (by decide) (by decide)) hp27 (by omega) (validP_le (by omega) VP.out) z1 z2 z3 P3.out HJ2.out (Nat.lt_trans (by omega) lst14x) HBT.out.1 (Nat.lt_of_le_of_lt (by rw [insP_split]; have := HI1.out; omega) lst14x) (by rw [insP_split]; have := HI1.out; omega))
      have HM7 := Lib.hid hm7
      have HROW := Lib.hid row7
      have HF7 : Hid (Fr0 w w7) := Kk.all0 HFR.out hk7 HKB.out
      have HL7 := Lib.hid hl7
      clear hm7 hk7 g7 row7 hb7 hoa7 ho27 hpa7 hp27 hp12 hq12 hi2 hla hl2 z1 z2 z3 hl7 CX HMR HOA7 HO27 HP2 HFR HBR
      go_wp2_with fail
      refine CC.out.mono ?_
      rintro e w8 ⟨L8, v8, es, k8, rfl, hS8, hK8, g8, hk8, ho8, hp8⟩
      obtain ⟨a8, c9, rfl⟩ := owns_form ho8
      have hk8' : k8 ≤ 9568 := by have h1 := P12.out.1; have h2 := Q12.out.1; have h3 := HI2.out.2; exact Nat.le_trans hk8 (ap_cost (by omega) (by omega))
      have hl8 : L8.length ≤ 38000 := by have := g8.len; have := HL7.out; omega
      have hm8 := HM7.out.made hS8 hK8 g8 (by omega)
      have hrl := HROW.out.all.len
      have CA := Lib.hid (law43_alike hm8 (hK8.owns HROW.out.own (by decide) (by decide)) (owns_dn ho8 HF7.out.size) (HROW.out.all.more g8 HM7.out.dok) hp8 (fun x hx => by
       rcases List.mem_append.1 hx with hx | hx
       · exact P3.out x hx
       · exact HJ1.out x hx) (by rw [List.length_append] at hrl; have := P12.out; have := Q12.out; have := HI1.out; omega) (by omega) (by omega))
      have HF8 : Hid (Fr0 w w8) := Kk.all0 HF7.out (Kk.ofK hK8) HKB.out
      clear hS8 hK8 g8 hk8 hk8' ho8 hp8 hl8 hm8 hrl CC HM7 HROW HF7 HL7
      go_wp2_with fail
      refine CA.out.mono ?_
      rintro e w9 ⟨L9, rfl, hm9, hk9, g9⟩
      have HF9 : Hid (Fr0 w w9) := Kk.all0 HF8.out hk9 HKB.out
      clear hm9 hk9 g9 CA HF8
      go_wp2_with fail
      go_ret
      exact ⟨rfl, HF9.out⟩
end Go.Proofs.YtgldjpldldknoaaGreatDoor

/- The walk of merge.Resolve. -/
import Derived.Test.YtbhidkmhlfggfaaGreatDoorQMr5
import Derived.Test.YtbhidkmhlfggfaaGreatDoorQLg1
set_option linter.unusedSimpArgs false
set_option linter.unusedVariables false
namespace Go.Proofs.YtbhidkmhlfggfaaGreatDoor
open Go.RowKit
theorem ints2m (w : World) (x y : Int) : IntsAt (w.alloc (.cells #[.int .i64 x, .int .i64 y] 28 (0, 0))).drew (some ⟨w.heap.size, 0, none⟩) [x, y] := by
 intro i hi
 refine ⟨_, 0, _, _, _, rfl, alloc_at w _ _ rfl, by decide, by decide, ?_⟩
 match i, hi with
 | 0, _ => rfl
 | 1, _ => rfl
theorem resQ_at (t : List Int) (g : Grp PC) {k : Int} (h : 0 < k) : resQ t g k = [⟨g.at_, g.end_ - g.at_, if k = 2 then sdr t g else if k = 3 then sdl t g ++ sdr t g else sdl t g⟩] := if_pos h
theorem mgC_take (t : List Int) (hs : List (Grp PC)) (k : Nat) : (mgC t (hs.take k)).length ≤ (mgC t hs).length := by
 unfold mgC
 rw [List.length_map, List.length_map]
 exact (List.Sublist.filter _ (List.take_sublist k hs)).length_le
theorem ints_kk {B mb kb : Nat} {w w' : World} {a : Option Addr} {ks : List Int} (h : RG (fun x => [Value.int .i64 x]) 1 B w a ks) (ha : ks ≠ [] → ∀ ad, a = some ad → ad.block < B) (hk : Kk B mb kb w w') (hkb : B ≤ kb) : RG (fun x => [Value.int .i64 x]) 1 B w' a ks := by
 intro i hi
 obtain ⟨b, off, rfl, h2, _, h4⟩ := h i hi
 have hb : b < B := ha (fun e => by subst e; simp at hi) _ rfl
 have e := hk.low b hb h2 (fun e => by omega)
 refine ⟨b, off, rfl, by have := hk.size; omega, .inl hb, fun j u hj => ?_⟩
 rw [← h4 j u hj]
 simp only [World.cell?]
 rw [e]
structure ChR (B : Nat) (w : World) (ch : Option Addr) (n cc : Nat) (rs : List Int) : Prop where
 len : n = rs.length
 cap : n ≤ cc
 low : rs ≠ [] → ∀ ad, ch = some ad → ad.block < B
 rg : RG (fun x => [Value.int .i64 x]) 1 B w ch rs
theorem ChR.kk {B mb kb : Nat} {w w' : World} {ch : Option Addr} {n cc : Nat} {rs : List Int} (h : ChR B w ch n cc rs) (hk : Kk B mb kb w w') (hkb : B ≤ kb) : ChR B w' ch n cc rs :=
 ⟨h.len, h.cap, h.low, ints_kk h.rg h.low hk hkb⟩
theorem ChR.tail {B : Nat} {w : World} {b off n cc : Nat} {c : Int} {rs : List Int} (h : ChR B w (some ⟨b, off, none⟩) n cc (c :: rs)) {A : Option Addr} (hA : (if cc = 1 then (some ⟨b, off, none⟩ : Option Addr) else some ⟨b, off + 1, none⟩) = A) : ChR B w A (n - 1) (cc - 1) rs := by
 have hl := h.len
 have hc := h.cap
 rw [List.length_cons] at hl
 have hb : b < B := h.low (by simp) _ rfl
 by_cases e : cc = 1
 · rw [if_pos e] at hA
   subst hA
   have e2 : rs = [] := List.eq_nil_of_length_eq_zero (by omega)
   subst e2
   exact ⟨by simp at hl ⊢; omega, by omega, fun hn => absurd rfl hn, RG.nil _ _ _ _ _⟩
 · rw [if_neg e] at hA
   subst hA
   exact ⟨by omega, by omega, fun _ ad had => by rw [← Option.some.inj had]; exact hb, RG.tail h.rg⟩
structure RsR (B : Nat) (w1 wr : World) (mp kb pp tp p mb : Nat) (most : Int) (L1 L' : List Ent) (t : List Int) (hs : List (Grp PC)) (ks : List Int) (zs : List Gm) (xs : Nat → Int × Int) (gv : Value) (base k : Nat) (v : Value) (cs : List Chg) : Prop where
 me : Me B wr mp kb pp tp p mb most L'
 kk : Kk B mb kb w1 wr
 gu : Gu L1 L' (k * 74)
 row : wr.ownsRow w1.heap.size 75 3 v cs.length (cs.flatMap Chg.vals)
 pc : PChg L' cs (refQ t ks 0 (hs.take k))
 gr : wr.ownsRow base 70 1 gv zs.length (zs.flatMap gpz)
 gf : GsF wr t L' zs xs hs
theorem RsR.next {B : Nat} {w1 wq W : World} {mp kb pp tp p mb : Nat} {most : Int} {L1 L' : List Ent} {t : List Int} {hs : List (Grp PC)} {ks : List Int} {zs : List Gm} {xs : Nat → Int × Int} {gv : Value} {base k : Nat} {v v' : Value} {cs ds : List Chg} (hB : B ≤ w1.heap.size) (hme : Me B wq mp kb pp tp p mb most L') (hkk : Kk B mb kb w1 wq) (hgu : Gu L1 L' ((k + 1) * 74)) (hrow : wq.ownsRow w1.heap.size 75 3 v cs.length (cs.flatMap Chg.vals)) (hgr : wq.ownsRow base 70 1 gv zs.length (zs.flatMap gpz)) (hgf : GsF wq t L' zs xs hs) (hpc : PChg L' ds (refQ t ks 0 (hs.take (k + 1)))) (hF : Fr (fun j => v.ownBlock = some j) wq W) (hO : W.ownsRow w1.heap.size 75 3 v' ds.length (ds.flatMap Chg.vals)) :
    RsR B w1 W mp kb pp tp p mb most L1 L' t hs ks zs xs gv base (k + 1) v' ds := by
 refine ⟨hme.fr hF (fun i hi e => ?_), Ks.fr hkk hF (fun i hi e => ?_), hgu, hO, hpc, hF.owns hgr (fun j hj e => ?_), fun i h1 h2 => ?_⟩
 · obtain ⟨cur, hc⟩ := owns_block hrow e
   exact ⟨by have := (hrow.lt i e).1; omega, _, _, _, hc, by decide⟩
 · have := (hrow.lt i e).1
   omega
 · obtain ⟨cur, hc⟩ := owns_block hrow e
   obtain ⟨cur2, hc2⟩ := owns_block hgr hj
   rw [hc] at hc2
   exact absurd hc2 (by simp)
 · have g := hgf i h1 h2
   refine ⟨hF.kept g.box (fun e => ?_), g.lv, g.rv, g.bx, g.by_, g.at_, g.end_⟩
   obtain ⟨cur, hc⟩ := owns_block hrow e
   rw [g.box] at hc
   exact absurd hc (by simp)
theorem rg_keptF {α : Type} {vals : α → List Value} {size B : Nat} {S : Nat → Prop} {w w' : World} {a : Option Addr} {xs : List α} (h : RG vals size B w a xs) (hf : Fr S w w') (hn : xs ≠ [] → ∀ ad, a = some ad → ad.block < B ∧ ¬ S ad.block) : RG vals size B w' a xs := by
 intro i hi
 obtain ⟨b, off, h1, h2, h3, h4⟩ := h i hi
 have hb := hn (fun e => by subst e; simp at hi) _ h1
 exact ⟨b, off, h1, by have := hf.size; omega, .inl hb.1, fun j u hj => (hf.cell ⟨b, off + i * size + j, none⟩ h2 hb.2).trans (h4 j u hj)⟩
theorem ChR.fr {B : Nat} {S : Nat → Prop} {w W : World} {ch : Option Addr} {n cc : Nat} {rs : List Int} (h : ChR B w ch n cc rs) (hF : Fr S w W) (hS : ∀ j, S j → B ≤ j) : ChR B W ch n cc rs :=
 ⟨h.len, h.cap, h.low, rg_keptF h.rg hF (fun hn ad had => ⟨h.low hn ad had, fun hs => by have := h.low hn ad had; have := hS _ hs; omega⟩)⟩
theorem own_ge {w : World} {base B : Nat} {e : TypeId} {size n : Nat} {v : Value} {xs : List Value} (h : w.ownsRow base e size v n xs) (hB : B ≤ base) : ∀ j, v.ownBlock = some j → B ≤ j := fun j hj => by have := (h.lt j hj).1; omega
theorem lst12r : 600 < lst 13 := by decide
theorem refQ_len (t : List Int) (ks : List Int) : ∀ (gs : List (Grp PC)) (c : Nat), (refQ t ks c gs).length ≤ gs.length
 | [], c => by simp [refQ]
 | g :: gs, c => by
  rw [refQ]
  split
  · have := refQ_len t ks gs (c + 1)
    have h2 : (resQ t g (ks.getD c 0)).length ≤ 1 := by unfold resQ; split <;> simp
    rw [List.length_append, List.length_cons]; omega
  · have := refQ_len t ks gs c
    rw [List.length_cons, List.length_cons]; omega
def RvBad (B : Nat) (w : World) (mp kb pp tp p mb : Nat) (most : Int) (L : List Ent) (N : Nat) (e : Ending) (w' : World) : Prop :=
 ∃ L', e = .returned (.tuple #[.slice none 0 0, .iface 50 (.int .i64 1)]) ∧ Me B w' mp kb pp tp p mb most L' ∧ Kk B mb kb w w' ∧ Gu L L' N
def RvPost (B : Nat) (w : World) (mp kb pp tp p mb : Nat) (most : Int) (L : List Ent) (t : List Int) (hs : List (Grp PC)) (ks : List Int) (N : Nat) (e : Ending) (w' : World) : Prop :=
 ∃ L' v cs, e = .returned (.tuple #[v, .nilIface]) ∧ Me B w' mp kb pp tp p mb most L' ∧ Kk B mb kb w w' ∧ Gu L L' N ∧ w'.ownsRow w.heap.size 75 3 v cs.length (cs.flatMap Chg.vals) ∧ PChg L' cs (refQ t ks 0 hs)
theorem sdE_len {t : List Int} {hs : List (Grp PC)} (h : ∀ g ∈ hs, (sdl t g).length ≤ 600 ∧ (sdr t g).length ≤ 600) : ∀ g ∈ hs, (sdE t g.end_ g.at_ g.left).length ≤ 600 ∧ (sdE t g.end_ g.at_ g.right).length ≤ 600 := by
 intro g hg
 have h1 := h g hg
 unfold sdl sdr at h1
 unfold sdE
 constructor
 · split
   · simp
   · exact h1.1
 · split
   · simp
   · exact h1.2
set_option maxRecDepth 100000 in
set_option maxHeartbeats 4000000 in
theorem mr_Resolve_bad {B : Nat} {w : World} {mp kb pp tp p mb : Nat} {most : Int} {L : List Ent} {id : Int} {t : List Int} {a b ch : Option Addr} {ca cb cc n m : Nat} {hs : List (Grp PC)} {ks : List Int} {NM : Nat} (hhl : hs.length ≤ 1000) (hlen : ∀ g ∈ hs, (sdl t g).length ≤ 600 ∧ (sdr t g).length ≤ 600) (hK : ChR B w ch ks.length cc ks) (hkl : ks.length ≤ 1000) (hkb : B ≤ kb) (hbad : okCh (mgC t hs).length ks = false)
    (hM : Calls Tryz.prog 22 #[.pointer (some ⟨mp, 0, none⟩), .int .i64 id, .slice a n ca, .slice b m cb] w (MgPost B w mp kb pp tp p mb most L t hs NM)) :
    Calls Tryz.prog 14 #[.pointer (some ⟨mp, 0, none⟩), .int .i64 id, .slice a n ca, .slice b m cb, .slice ch ks.length cc] w (RvBad B w mp kb pp tp p mb most L NM) := by
 have CM := Lib.hid hM
 have HK := Lib.hid hK
 have HLEN := Lib.hid (sdE_len hlen)
 have HBAD := Lib.hid hbad
 clear hM hK hlen hbad
 go_enter Tryz.func14, Tryz.ntmps14
 go_wp2_with fail
 refine CM.out.mono ?_
 rintro e w1 ⟨L1, gv, zs, xs, rfl, hm1, hk1, hg1, hl1, hr1, hf1⟩
 have hck := HK.out.kk hk1 hkb
 have hq1 := hm1
 obtain ⟨T, kn, hq⟩ := hq1
 have CP := Lib.hid (fun W (hW : Fr0 w1 W) => cn_Parser (hq.kept0 hW).box)
 have CS := Lib.hid (fun W (hW : Fr0 w1 W) => sig_Store (hq.kept0 hW).pq)
 have CC := Lib.hid (mr_chosen (ca := cc) hm1.st hm1.sok hm1.dok hr1 hf1 hl1 (by omega) HLEN.out hck.rg hkl)
 rw [HBAD.out] at CC
 have HX : Hid (∀ W, Fr0 w1 W → RvBad B w mp kb pp tp p mb most L NM (.returned (.tuple #[.slice none 0 0, .iface 50 (.int .i64 1)])) W) := fun W hW => ⟨L1, rfl, hm1.kept0 hW, hk1.trans (Kk.of0 hW), hg1⟩
 obtain ⟨va, vc, rfl⟩ := owns_form hr1
 clear hck hq hm1 hk1 hg1 hl1 hr1 hf1 CM HK HLEN HBAD
 go_wp2_with fail
 refine (CP.out w1 (Fr0.refl w1)).mono ?_
 rintro e w2 ⟨rfl, rfl⟩
 go_wp2_with fail
 refine (CS.out w1 (Fr0.refl w1)).mono ?_
 rintro e w2 ⟨rfl, rfl⟩
 go_wp2_with fail
 refine CC.out.mono ?_
 rintro e w2 ⟨rfl, f2⟩
 have HY := Lib.hid (HX.out w2 f2)
 clear HX CC CP CS f2
 unfold chE
 rw [if_neg (by decide)]
 go_wp2_with fail
 go_ret2
 exact HY.out
set_option maxRecDepth 100000 in
set_option maxHeartbeats 4000000 in
theorem mr_Resolve_ok {B : Nat} {w : World} {mp kb pp tp p mb : Nat} {most : Int} {L : List Ent} {id : Int} {t : List Int} {a b ch : Option Addr} {ca cb cc n m : Nat} {hs : List (Grp PC)} {ks : List Int} {NM : Nat} (hhl : hs.length ≤ 1000) (hne : ∀ h ∈ hs, h.left ≠ [] ∨ h.right ≠ []) (hin : ∀ h ∈ hs, 0 ≤ h.at_ ∧ h.at_ ≤ h.end_ ∧ h.end_ ≤ 1000000) (hlen : ∀ g ∈ hs, (sdl t g).length ≤ 600 ∧ (sdr t g).length ≤ 600) (hsum : ∀ g ∈ hs, (sdl t g).length + (sdr t g).length ≤ 600) (hK : ChR B w ch ks.length cc ks) (hkl : ks.length ≤ 1000) (hkb : B ≤ kb) (hBw : B ≤ w.heap.size) (hok : okCh (mgC t hs).length ks = true) (hmost : ((L.length + NM + 74000 : Nat) : Int) ≤ most) (hL : L.length + NM + 74000 ≤ 500000)
    (hM : Calls Tryz.prog 22 #[.pointer (some ⟨mp, 0, none⟩), .int .i64 id, .slice a n ca, .slice b m cb] w (MgPost B w mp kb pp tp p mb most L t hs NM)) :
    Calls Tryz.prog 14 #[.pointer (some ⟨mp, 0, none⟩), .int .i64 id, .slice a n ca, .slice b m cb, .slice ch ks.length cc] w (RvPost B w mp kb pp tp p mb most L t hs ks (NM + 74000)) := by
 have CM := Lib.hid hM
 have HK := Lib.hid hK
 have HLEN := Lib.hid (sdE_len hlen)
 have HNE := Lib.hid hne
 have HIN := Lib.hid hin
 have HSUM := Lib.hid hsum
 have HOK := Lib.hid hok
 have HMO := Lib.hid hmost
 have HLL := Lib.hid hL
 have hkc : ks.length = (mgC t hs).length ∧ ∀ (i : Nat) (hi : i < ks.length), 0 ≤ ks[i] ∧ ks[i] ≤ 3 := by
  unfold okCh at hok
  rw [Bool.and_eq_true, decide_eq_true_iff, List.all_eq_true] at hok
  refine ⟨hok.1, fun i hi => ?_⟩
  have := hok.2 _ (List.getElem_mem hi)
  simpa using this
 have HKC := Lib.hid hkc
 clear hM hK hlen hok hne hin hsum hkc hmost hL
 go_enter Tryz.func14, Tryz.ntmps14
 go_wp2_with fail
 refine CM.out.mono ?_
 rintro e w1 ⟨L1, gv, zs, xs, rfl, hm1, hk1, hg1, hl1, hr1, hf1⟩
 have hck := HK.out.kk hk1 hkb
 have hq1 := hm1
 obtain ⟨T, kn, hq⟩ := hq1
 have CP := Lib.hid (fun W (hW : Fr0 w1 W) => cn_Parser (hq.kept0 hW).box)
 have CS := Lib.hid (fun W (hW : Fr0 w1 W) => sig_Store (hq.kept0 hW).pq)
 have CC := Lib.hid (mr_chosen (ca := cc) hm1.st hm1.sok hm1.dok hr1 hf1 hl1 (by omega) HLEN.out hck.rg hkl)
 rw [HOK.out] at CC
 obtain ⟨va, vc, rfl⟩ := owns_form hr1
 have HCK := Lib.hid hck
 have HM1 := Lib.hid hm1
 have HK1 := Lib.hid hk1
 have HG1 := Lib.hid hg1
 have HL1 := Lib.hid hl1
 have HR1 := Lib.hid hr1
 have HF1 := Lib.hid hf1
 have hzl : zs.length ≤ 1000 := by omega
 clear hck hq hm1 hk1 hg1 hl1 hr1 hf1 CM HK HLEN HOK
 go_wp2_with fail
 refine (CP.out w1 (Fr0.refl w1)).mono ?_
 rintro e w2 ⟨rfl, rfl⟩
 go_wp2_with fail
 refine (CS.out w1 (Fr0.refl w1)).mono ?_
 rintro e w2 ⟨rfl, rfl⟩
 go_wp2_with fail
 refine CC.out.mono ?_
 rintro e w2 ⟨rfl, f2⟩
 have HB2 : Hid (B ≤ w2.heap.size) := Nat.le_trans hBw (Nat.le_trans HK1.out.size f2.size)
 have HCK2 := Lib.hid (HCK.out.kk (Kk.of0 (mb := mb) (kb := kb) f2) hkb)
 have HS2 : Hid (RsR B w2 w2 mp kb pp tp p mb most L1 L1 t hs ks zs xs (.slice va zs.length vc) w.heap.size 0 (.slice none 0 0) []) := ⟨HM1.out.kept0 f2, Kk.refl _ _ _ _, (Gu.refl HM1.out.sok HM1.out.dok HM1.out.uq).le (by omega), World.ownsRow_nil _ _ _ _, trivial, f2.owns HR1.out, HF1.out.kept0 f2⟩
 have HK2 := Lib.hid (HK1.out.trans (Kk.of0 f2))
 clear CC CP CS f2 HR1 HF1 HM1 HK1 HCK
 unfold chE
 rw [if_pos rfl]
 go_wp2_with fail
 go_loopg [16, 44, 4] zs.length (fun gk v i s4 wr => ∃ (k : Nat) (cs : List Chg) (L' : List Ent) (cha : Option Addr) (cn ccc : Nat), k + gk = zs.length ∧ i = .int .i64 k ∧ s4 = .slice cha cn ccc ∧ RsR B w2 wr mp kb pp tp p mb most L1 L' t hs ks zs xs (.slice va zs.length vc) w.heap.size k v cs ∧ ChR B wr cha cn ccc (ks.drop (mgC t (hs.take k)).length))
 case atStart => exact ⟨0, [], L1, ch, ks.length, cc, by omega, rfl, rfl, HS2.out, HCK2.out⟩
 case round =>
  clear HS2 HCK2
  obtain ⟨k, cs, L', cha, cn, ccc, hk, rfl, rfl, hr, hch⟩ := hrel
  have hcl : cs.length ≤ 1000 := by
   have h1 := hr.pc.len
   have h2 := refQ_len t ks (hs.take k) 0
   rw [List.length_take] at h2
   omega
  by_cases hlt : k < zs.length
  · obtain ⟨b5, o5, cap5, e5, l5, c5⟩ := read_grp hr.gr k hlt
    simp only [Value.slice.injEq, true_and] at e5
    obtain ⟨rfl, rfl⟩ := e5
    have hlt2 : k < hs.length := by have := HL1.out; omega
    have hg := hr.gf k hlt hlt2
    obtain ⟨m0, m1, m2, m3, m4, m5, m6, lm, mf⟩ := cells7 hg.box
    obtain ⟨la, lc, hlv⟩ := hg.lv
    have hsn : hs.take (k + 1) = hs.take k ++ [hs[k]] := List.take_succ_eq_append_getElem hlt2
    have HTQ : Hid (refQ t ks 0 (hs.take (k + 1)) = refQ t ks 0 (hs.take k) ++ (if isC t hs[k] = true then resQ t hs[k] (ks.getD (mgC t (hs.take k)).length 0) else [chP t hs[k]])) := by show _ = _; rw [hsn, refQ_snoc, Nat.zero_add]
    have HTC : Hid ((mgC t (hs.take (k + 1))).length = (mgC t (hs.take k)).length + (if isC t hs[k] = true then 1 else 0)) := by
     show _ = _
     rw [hsn, mgC_snoc, List.length_append]
     split <;> simp
    have HTL := Lib.hid (mgC_take t hs (k + 1))
    have hin := HIN.out hs[k] (List.getElem_mem hlt2)
    have hne := HNE.out hs[k] (List.getElem_mem hlt2)
    have HSU := Lib.hid (HSUM.out hs[k] (List.getElem_mem hlt2))
    have HTX := Lib.hid (hg.text hne)
    have HCF := Lib.hid (fun hc => hg.conf hc)
    have eat := hg.at_
    have een := hg.end_
    have hbx := hg.box
    rw [hlv] at hbx
    rw [eat, een] at HCF hbx
    rw [eat] at m2
    rw [een] at m3
    have eqa : (chP t hs[k]).at_ = hs[k].at_ := rfl
    have eqn : (chP t hs[k]).n = hs[k].end_ - hs[k].at_ := rfl
    have HHX := Lib.hid hbx
    have CT : Hid (∀ W, Fr0 wr W → Calls Tryz.prog 23 #[.pointer (some ⟨zs[k].gb, 0, none⟩)] W fun e w' => e = .returned (.int .i64 (if 0 < hs[k].left.length then (xs k).1 else (xs k).2)) ∧ W = w') := fun W hW => gr_text (hW.kept hbx) _ rfl
    generalize zs[k].gb = gb at *
    generalize (xs k).1 = x at *
    generalize (xs k).2 = y at *
    have HR := Lib.hid hr
    have HCH := Lib.hid hch
    have HOC := Lib.hid hr.row
    obtain ⟨cA, cC, rfl⟩ := owns_form hr.row
    have hbs : w2.heap.size ≤ wr.heap.size := hr.kk.size
    have hgc : some gb ≠ (Value.slice cA cs.length cC).ownBlock := fun e => by
     obtain ⟨cur, hc⟩ := owns_block HOC.out e.symm
     rw [hbx] at hc; cases hc
    obtain ⟨cf, hcf⟩ : ∃ cf, isC t hs[k] = cf := ⟨_, rfl⟩
    rw [hcf] at m6 HTQ HTC HCF
    have hd : hs[k].at_ ≤ hs[k].end_ := hin.2.1
    have z1 := IntWalk.i64_in (hs[k].end_ - hs[k].at_) (by omega)
    have hgr := hr.gr
    clear hg hch hsn hne eat een hcf hlv m0 m1 hbx hr
    cases cf with
    | true =>
     have hm1 : (mgC t (hs.take k)).length < ks.length := by
      have h1 := HTC.out
      have h2 := HTL.out
      have h3 := HKC.out.1
      rw [if_pos rfl] at h1
      omega
     have HD : Hid (ks.drop (mgC t (hs.take k)).length = ks[(mgC t (hs.take k)).length] :: ks.drop (mgC t (hs.take (k + 1))).length) := by
      show _ = _
      rw [HTC.out, if_pos rfl]
      exact List.drop_eq_getElem_cons hm1
     have hgd : ks.getD (mgC t (hs.take k)).length 0 = ks[(mgC t (hs.take k)).length] := by rw [List.getD_eq_getElem?_getD, List.getElem?_eq_getElem hm1]; rfl
     have hc03 := HKC.out.2 _ hm1
     have htq := HTQ.out
     rw [if_pos rfl, hgd] at htq
     have HTQ2 := Lib.hid htq
     have hch := HCH.out
     rw [HD.out] at hch
     generalize ks[(mgC t (hs.take k)).length] = c at *
     obtain ⟨b2, o2, rfl, l2, _, hc2⟩ := hch.rg 0 (by simp)
     have c0 := hc2 0 _ rfl
     simp only [Nat.zero_mul, Nat.add_zero, List.getElem_cons_zero] at c0
     have hcn : 1 ≤ cn := by have := hch.len; rw [List.length_cons] at this; omega
     have hcc1 : cn ≤ ccc := hch.cap
     have g1 : (0 : Int) < (cn : Int) := by omega
     have g2 : (1 : Int) ≤ (cn : Int) := by omega
     have g3 : (cn : Int) ≤ (ccc : Int) := by omega
     obtain ⟨AA, hAA⟩ : ∃ AA, (if ccc = 1 then (some ⟨b2, o2, none⟩ : Option Addr) else some ⟨b2, o2 + 1, none⟩) = AA := ⟨_, rfl⟩
     have HT := Lib.hid (hch.tail hAA)
     obtain ⟨hcl1, hcl2⟩ : (∃ d, BalZ L' x (sdl t hs[k]) d) ∧ ∃ d, BalZ L' y (sdr t hs[k]) d := ⟨(HCF.out rfl).left, (HCF.out rfl).right⟩
     have HBX := Lib.hid hcl1
     have HBY := Lib.hid hcl2
     clear hcl1 hcl2 hgd htq hch hc2 HTX HCF HTQ HTC HTL HD hm1
     generalize (if 0 < hs[k].left.length then x else y) = zt0 at *
     by_cases h0 : c = 0
     · subst h0
       have HTQ3 : Hid (refQ t ks 0 (hs.take (k + 1)) = refQ t ks 0 (hs.take k)) := by show _ = _; rw [HTQ2.out]; exact List.append_nil _
       have HN : Hid (RsR B w2 wr mp kb pp tp p mb most L1 L' t hs ks zs xs _ w.heap.size (k + 1) (.slice cA cs.length cC) cs) := ⟨HR.out.me, HR.out.kk, HR.out.gu.le (by omega), HR.out.row, by rw [HTQ3.out]; exact HR.out.pc, HR.out.gr, HR.out.gf⟩
       clear HTQ2 HTQ3 HBX HBY HCH HR
       go_upto_region 12 with fail
       go_wp2_with fail
       refine (CT.out wr (Fr0.refl wr)).mono ?_
       rintro e w3 ⟨rfl, rfl⟩
       clear CT
       go_wp2_with fail
       go_roundg (gk - 1)
       case measure => omega
       case rel => exact ⟨k + 1, cs, L', AA, cn - 1, ccc - 1, by omega, by go_num, by go_num, HN.out, HT.out⟩
     by_cases h1 : c = 1
     · subst h1
       have HTQ3 : Hid (refQ t ks 0 (hs.take (k + 1)) = refQ t ks 0 (hs.take k) ++ [⟨hs[k].at_, hs[k].end_ - hs[k].at_, sdl t hs[k]⟩]) := by show _ = _; rw [HTQ2.out, resQ_at t hs[k] (by decide)]; rfl
       have HPN : Hid (PChg L' (cs ++ [⟨hs[k].at_, hs[k].end_ - hs[k].at_, x⟩]) (refQ t ks 0 (hs.take (k + 1)))) := by
        show PChg _ _ _
        rw [HTQ3.out]
        obtain ⟨dd, bb⟩ := HBX.out
        exact HR.out.pc.snoc rfl rfl bb
       clear HTQ2 HTQ3 HBX HBY HCH
       go_upto_region 12 with fail
       go_wp2_with fail
       refine (CT.out wr (Fr0.refl wr)).mono ?_
       rintro e w3 ⟨rfl, rfl⟩
       clear CT
       go_upto_region 26 with fail
       go_region_held3 (fun w' => w'.cell? ⟨gb, 2, none⟩ = some (.int .i64 hs[k].at_) ∧ w'.cell? ⟨gb, 3, none⟩ = some (.int .i64 hs[k].end_))
        (first
         | (go_keep; done)
         | (go_split_ands
            refine ⟨?_, ?_⟩
            · (rw [hg4.cell_far _ (by simp; omega) hgc]; assumption)
            · (rw [hg4.cell_far _ (by simp; omega) hgc]; assumption)))
        ((refine step_pushN (vals := Chg.vals) rt_chg (by rfl) _ _ (by rfl) w2.heap.size _ cs [⟨hs[k].at_, hs[k].end_ - hs[k].at_, x⟩] (by rfl) HOC.out hbs 75 #[.int .i64 hs[k].at_, .int .i64 (hs[k].end_ - hs[k].at_), .int .i64 x] (by rfl) (by rfl) (by simp [Chg.vals, Value.oneCell']) 1 wr.heap.size 1 (by rfl) (by omega) (by rfl) (by rfl) (by omega) (by omega) (by simp) ?_; intro g2 gcap w4 hO4 hg4 hat4))
       all_goals
        have HF4 : Hid (Fr (fun j => (Value.slice cA cs.length cC).ownBlock = some j) wr w4) := Fr.grown ((Fr.refl _ wr).alloc _).drew hg4 (fun j hj _ => hj)
        have HO4 := Lib.hid hO4
        clear hO4 hg4 hat4 m2 m3 lm mf
        go_wp2_with fail
        go_roundg (gk - 1)
        case measure => omega
        case rel => exact ⟨k + 1, cs ++ [⟨hs[k].at_, hs[k].end_ - hs[k].at_, x⟩], L', AA, (cn - 1), (ccc - 1), by omega, by go_num, by go_num, RsR.next HB2.out HR.out.me HR.out.kk (HR.out.gu.le (by omega)) HOC.out HR.out.gr HR.out.gf HPN.out HF4.out HO4.out, HT.out.fr HF4.out (own_ge HOC.out HB2.out)⟩
     by_cases h2 : c = 2
     · subst h2
       have HTQ3 : Hid (refQ t ks 0 (hs.take (k + 1)) = refQ t ks 0 (hs.take k) ++ [⟨hs[k].at_, hs[k].end_ - hs[k].at_, sdr t hs[k]⟩]) := by show _ = _; rw [HTQ2.out, resQ_at t hs[k] (by decide)]; rfl
       have HPN : Hid (PChg L' (cs ++ [⟨hs[k].at_, hs[k].end_ - hs[k].at_, y⟩]) (refQ t ks 0 (hs.take (k + 1)))) := by
        show PChg _ _ _
        rw [HTQ3.out]
        obtain ⟨dd, bb⟩ := HBY.out
        exact HR.out.pc.snoc rfl rfl bb
       clear HTQ2 HTQ3 HBX HBY HCH
       go_upto_region 12 with fail
       go_wp2_with fail
       refine (CT.out wr (Fr0.refl wr)).mono ?_
       rintro e w3 ⟨rfl, rfl⟩
       clear CT
       go_upto_region 26 with fail
       go_region_held3 (fun w' => w'.cell? ⟨gb, 2, none⟩ = some (.int .i64 hs[k].at_) ∧ w'.cell? ⟨gb, 3, none⟩ = some (.int .i64 hs[k].end_))
        (first
         | (go_keep; done)
         | (go_split_ands
            refine ⟨?_, ?_⟩
            · (rw [hg4.cell_far _ (by simp; omega) hgc]; assumption)
            · (rw [hg4.cell_far _ (by simp; omega) hgc]; assumption)))
        ((refine step_pushN (vals := Chg.vals) rt_chg (by rfl) _ _ (by rfl) w2.heap.size _ cs [⟨hs[k].at_, hs[k].end_ - hs[k].at_, y⟩] (by rfl) HOC.out hbs 75 #[.int .i64 hs[k].at_, .int .i64 (hs[k].end_ - hs[k].at_), .int .i64 y] (by rfl) (by rfl) (by simp [Chg.vals, Value.oneCell']) 1 wr.heap.size 1 (by rfl) (by omega) (by rfl) (by rfl) (by omega) (by omega) (by simp) ?_; intro g2 gcap w4 hO4 hg4 hat4))
       all_goals
        have HF4 : Hid (Fr (fun j => (Value.slice cA cs.length cC).ownBlock = some j) wr w4) := Fr.grown ((Fr.refl _ wr).alloc _).drew hg4 (fun j hj _ => hj)
        have HO4 := Lib.hid hO4
        clear hO4 hg4 hat4 m2 m3 lm mf
        go_wp2_with fail
        go_roundg (gk - 1)
        case measure => omega
        case rel => exact ⟨k + 1, cs ++ [⟨hs[k].at_, hs[k].end_ - hs[k].at_, y⟩], L', AA, (cn - 1), (ccc - 1), by omega, by go_num, by go_num, RsR.next HB2.out HR.out.me HR.out.kk (HR.out.gu.le (by omega)) HOC.out HR.out.gr HR.out.gf HPN.out HF4.out HO4.out, HT.out.fr HF4.out (own_ge HOC.out HB2.out)⟩
     obtain rfl : c = 3 := by omega
     have HTQ3 : Hid (refQ t ks 0 (hs.take (k + 1)) = refQ t ks 0 (hs.take k) ++ [⟨hs[k].at_, hs[k].end_ - hs[k].at_, sdl t hs[k] ++ sdr t hs[k]⟩]) := by show _ = _; rw [HTQ2.out, resQ_at t hs[k] (by decide)]; rfl
     have HLq : Hid (L'.length ≤ L1.length + k * 74) := by have := HR.out.gu.gr.len; exact this
     have hkk : k * 74 + 74 ≤ 74000 := by omega
     have hroom : Room B wr p mb most L' (2 * (3 * 12 + 1)) := HR.out.me.room (by have := HLq.out; have := HMO.out; have := HG1.out.gr.len; omega) (by have := HLq.out; have := HLL.out; have := HG1.out.gr.len; omega)
     have CQ : Hid (Calls Tryz.prog 30 #[.pointer (some ⟨p, 0, none⟩), .slice (some ⟨wr.heap.size, 0, none⟩) 2 2] (wr.alloc (.cells #[.int .i64 x, .int .i64 y] 28 (0, 0))).drew (ZPost B (wr.alloc (.cells #[.int .i64 x, .int .i64 y] 28 (0, 0))).drew p mb most L' [sdl t hs[k], sdr t hs[k]].flatten (fun d k => d ≤ 12 ∧ k ≤ 2 * (3 * 12 + 1)))) := by
      have hfl : ([sdl t hs[k], sdr t hs[k]].flatten).length ≤ 600 := by have := HSU.out; simp only [List.flatten_cons, List.flatten_nil, List.append_nil, List.length_append]; exact this
      exact bal_Concat (ids := [x, y]) 12 (hroom.kept0 ((Fr0.refl wr).alloc _).drew) (ints2m wr x y) ⟨HBX.out, HBY.out, trivial⟩ (by simp) (by omega) (Nat.lt_of_le_of_lt hfl lst12r)
     have HKY : Hid (∀ W, Kp B mb wr W → W.cell? ⟨gb, 4, none⟩ = some (.int .i64 x) ∧ W.cell? ⟨gb, 5, none⟩ = some (.int .i64 y)) := fun W hW => by
      have e1 := cells7 (hW.cells _ _ _ _ HHX.out (by decide) (by decide))
      exact ⟨e1.2.2.2.2.1, e1.2.2.2.2.2.1⟩
     have f0 : Fr0 wr (wr.alloc (.cells #[.int .i64 x, .int .i64 y] 28 (0, 0))).drew := ((Fr0.refl wr).alloc _).drew
     have HF0 := Lib.hid f0
     clear f0 hroom HTQ2 HBX HBY HCH hkk
     go_upto_region 12 with fail
     go_wp2_with fail
     refine (CT.out wr (Fr0.refl wr)).mono ?_
     rintro e w3 ⟨rfl, rfl⟩
     clear CT
     go_upto_region 23 with fail
     go_cut [19, 13] (fun s19 s13 wq => s13 = .nilIface ∧ ∃ L2 z dz kz, s19 = .int .i64 z ∧ Sto B wq p mb most L2 ∧ Kp B mb wr wq ∧ Grows L' L2 kz ∧ BalZ L2 z (sdl t hs[k] ++ sdr t hs[k]) dz ∧ kz ≤ 74)
     case first =>
      go_region_held3 (fun w' => w'.cell? ⟨gb, 4, none⟩ = some (.int .i64 x) ∧ w'.cell? ⟨gb, 5, none⟩ = some (.int .i64 y))
       (first | (go_keep; done) | exact HKY.out _ hff)
       ((first
        | (go_at_call 30; (with_reducible refine Calls.mono CQ.out ?_); rintro e w5 ⟨L2, z, dz, kz, rfl, hS5, hK5, hg5, hb5, hkz⟩; have hff : Kp B mb wr w5 := (Kp.of0 HF0.out).trans hK5; clear hK5)))
      all_goals
       have hb6 : BalZ L2 z (sdl t hs[k] ++ sdr t hs[k]) dz := by have := hb5; simpa using this
       have hkz2 : kz ≤ 74 := hkz.2
       have HS5 := Lib.hid hS5
       have HFF := Lib.hid hff
       have HG5 := Lib.hid hg5
       have HB6 := Lib.hid hb6
       clear hS5 hff hg5 hb5 hb6 hkz
       go_wp2_with fail
       go_meet
       exact ⟨rfl, L2, z, dz, kz, rfl, HS5.out, HFF.out, HG5.out, HB6.out, hkz2⟩
     case rest =>
     obtain ⟨rfl, L2, z, dz, kz, rfl, hS5, hK5, hg5, hb5, hkz⟩ := hcut
     rename World => wq
     have hl2 : L2.length ≤ 1000000 := by have := hg5.len; have := HLq.out; have := HLL.out; have := HG1.out.gr.len; omega
     have hme := HR.out.me.made hS5 hK5 hg5 hl2
     have hkk2 := HR.out.kk.trans (Kk.ofK (kb := kb) hK5)
     have hgu2 : Gu L1 L2 ((k + 1) * 74) := ⟨HR.out.gu.gr.trans hg5 (by omega), hg5.uq HR.out.gu.uq⟩
     have hgf2 : GsF wq t L2 zs xs hs := fun i h1 h2 => (HR.out.gf i h1 h2).ks (S := fun _ => False) (Ks.ofK hK5) (fun h => h) HR.out.me.dok hg5
     have hrow2 := hK5.owns HOC.out (by decide) (by decide)
     have hgr2 := hK5.owns HR.out.gr (by decide) (by decide)
     have HPN : Hid (PChg L2 (cs ++ [⟨hs[k].at_, hs[k].end_ - hs[k].at_, z⟩]) (refQ t ks 0 (hs.take (k + 1)))) := by
      show PChg _ _ _
      rw [HTQ3.out]
      exact (HR.out.pc.more hg5 HR.out.me.dok).snoc rfl rfl hb5
     have HT2 := Lib.hid (HT.out.kk (Kk.ofK (kb := kb) hK5) hkb)
     have hbx2 := hK5.cells _ _ _ _ HHX.out (by decide) (by decide)
     obtain ⟨n0, n1, m2, m3, n4, n5, n6, lm, mf⟩ := cells7 hbx2
     have hbs : w2.heap.size ≤ wq.heap.size := hkk2.size
     have HME := Lib.hid hme
     have HKK := Lib.hid hkk2
     have HGU := Lib.hid hgu2
     have HGF := Lib.hid hgf2
     have HOC2 := Lib.hid hrow2
     have HGR := Lib.hid hgr2
     clear hme hkk2 hgu2 hgf2 hrow2 hgr2 hS5 hK5 hg5 hb5 HTQ3 HKY CQ HF0 HR n0 n1 n4 n5 n6 hbx2 HHX HT HLq
     go_upto_region 26 with fail
     go_region_held3 (fun w' => w'.cell? ⟨gb, 2, none⟩ = some (.int .i64 hs[k].at_) ∧ w'.cell? ⟨gb, 3, none⟩ = some (.int .i64 hs[k].end_))
      (first
       | (go_keep; done)
       | (go_split_ands
          refine ⟨?_, ?_⟩
          · (rw [hg4.cell_far _ (by simp; omega) hgc]; assumption)
          · (rw [hg4.cell_far _ (by simp; omega) hgc]; assumption)))
      ((refine step_pushN (vals := Chg.vals) rt_chg (by rfl) _ _ (by rfl) w2.heap.size _ cs [⟨hs[k].at_, hs[k].end_ - hs[k].at_, z⟩] (by rfl) HOC2.out hbs 75 #[.int .i64 hs[k].at_, .int .i64 (hs[k].end_ - hs[k].at_), .int .i64 z] (by rfl) (by rfl) (by simp [Chg.vals, Value.oneCell']) 1 wq.heap.size 1 (by rfl) (by omega) (by rfl) (by rfl) (by omega) (by omega) (by simp) ?_; intro g2 gcap w4 hO4 hg4 hat4))
     all_goals
      have HF4 : Hid (Fr (fun j => (Value.slice cA cs.length cC).ownBlock = some j) wq w4) := Fr.grown ((Fr.refl _ wq).alloc _).drew hg4 (fun j hj _ => hj)
      have HO4 := Lib.hid hO4
      clear hO4 hg4 hat4 m2 m3 lm mf
      go_wp2_with fail
      go_roundg (gk - 1)
      case measure => omega
      case rel => exact ⟨k + 1, cs ++ [⟨hs[k].at_, hs[k].end_ - hs[k].at_, z⟩], L2, AA, (cn - 1), (ccc - 1), by omega, by go_num, by go_num, RsR.next HB2.out HME.out HKK.out HGU.out HOC2.out HGR.out HGF.out HPN.out HF4.out HO4.out, HT2.out.fr HF4.out (own_ge HOC2.out HB2.out)⟩
    | false =>
     have HTQ2 : Hid (refQ t ks 0 (hs.take (k + 1)) = refQ t ks 0 (hs.take k) ++ [chP t hs[k]]) := by show _ = _; rw [HTQ.out, if_neg (by simp)]
     have HT2 : Hid (ChR B wr cha cn ccc (ks.drop (mgC t (hs.take (k + 1))).length)) := by
      show ChR _ _ _ _ _ _
      rw [HTC.out, if_neg (by simp), Nat.add_zero]
      exact HCH.out
     have HPN : Hid (PChg L' (cs ++ [⟨hs[k].at_, hs[k].end_ - hs[k].at_, if 0 < hs[k].left.length then x else y⟩]) (refQ t ks 0 (hs.take (k + 1)))) := by
      show PChg _ _ _
      rw [HTQ2.out]
      obtain ⟨dd, bb⟩ := HTX.out
      exact HR.out.pc.snoc eqa.symm eqn.symm bb
     clear HTQ HTC HTL HCF HTX HCH HTQ2
     generalize (if 0 < hs[k].left.length then x else y) = zt at *
     go_upto_region 12 with fail
     go_wp2_with fail
     refine (CT.out wr (Fr0.refl wr)).mono ?_
     rintro e w3 ⟨rfl, rfl⟩
     clear CT
     go_upto_region 26 with fail
     go_region_held3 (fun w' => w'.cell? ⟨gb, 2, none⟩ = some (.int .i64 hs[k].at_) ∧ w'.cell? ⟨gb, 3, none⟩ = some (.int .i64 hs[k].end_))
      (first
       | (go_keep; done)
       | (go_split_ands
          refine ⟨?_, ?_⟩
          · (rw [hg4.cell_far _ (by simp; omega) hgc]; assumption)
          · (rw [hg4.cell_far _ (by simp; omega) hgc]; assumption)))
      ((refine step_pushN (vals := Chg.vals) rt_chg (by rfl) _ _ (by rfl) w2.heap.size _ cs [⟨hs[k].at_, hs[k].end_ - hs[k].at_, zt⟩] (by rfl) HOC.out hbs 75 #[.int .i64 hs[k].at_, .int .i64 (hs[k].end_ - hs[k].at_), .int .i64 zt] (by rfl) (by rfl) (by simp [Chg.vals, Value.oneCell']) 1 wr.heap.size 1 (by rfl) (by omega) (by rfl) (by rfl) (by omega) (by omega) (by simp) ?_; intro g2 gcap w4 hO4 hg4 hat4))
     all_goals
      have HF4 : Hid (Fr (fun j => (Value.slice cA cs.length cC).ownBlock = some j) wr w4) := Fr.grown ((Fr.refl _ wr).alloc _).drew hg4 (fun j hj _ => hj)
      have HO4 := Lib.hid hO4
      clear hO4 hg4 hat4 m2 m3 lm mf
      go_wp2_with fail
      go_roundg (gk - 1)
      case measure => omega
      case rel => exact ⟨k + 1, cs ++ [⟨hs[k].at_, hs[k].end_ - hs[k].at_, zt⟩], L', cha, cn, ccc, by omega, by go_num, by go_num, RsR.next HB2.out HR.out.me HR.out.kk (HR.out.gu.le (by omega)) HOC.out HR.out.gr HR.out.gf HPN.out HF4.out HO4.out, HT2.out.fr HF4.out (own_ge HOC.out HB2.out)⟩
  · have hkz : k = zs.length := by omega
    have HX : Hid (RvPost B w mp kb pp tp p mb most L t hs ks (NM + 74000) (.returned (.tuple #[u16, .nilIface])) wr) := by
     have hpc := hr.pc
     rw [List.take_of_length_le (by have := HL1.out; omega)] at hpc
     exact ⟨L', u16, cs, rfl, hr.me, HK2.out.trans hr.kk, HG1.out.trans hr.gu (by omega), owns_dn hr.row HK2.out.size, hpc⟩
    clear hr hch
    go_wp2_with fail
    go_ret2
    exact HX.out
end Go.Proofs.YtbhidkmhlfggfaaGreatDoor

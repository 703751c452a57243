/- The walk of merge.merge, for patches of a text. -/
import Derived.Test.YtgldjpldldknoaaGreatDoorRCn1
import Derived.Test.YtgldjpldldknoaaGreatDoorRSet
set_option linter.unusedSimpArgs false
set_option linter.unusedVariables false
namespace Go.Proofs.YtgldjpldldknoaaGreatDoor
open Go.RowKit
def cst (K : Nat) : List (Grp PC) → Nat
 | [] => 0
 | g :: r => 2 * (g.left.length + g.right.length) * K + 2 * ((g.end_ - g.at_).toNat + insP g.left + insP g.right) + cst K r
theorem cst_split (K : Nat) : ∀ a b : List (Grp PC), cst K (a ++ b) = cst K a + cst K b
 | [], b => by simp [cst]
 | g :: a, b => by simp only [List.cons_append, cst, cst_split K a b]; omega
theorem cst_take (K : Nat) (gs : List (Grp PC)) (k : Nat) (h : k < gs.length) : cst K (gs.take (k + 1)) = cst K (gs.take k) + (2 * (gs[k].left.length + gs[k].right.length) * K + 2 * ((gs[k].end_ - gs[k].at_).toNat + insP gs[k].left + insP gs[k].right)) ∧ cst K (gs.take (k + 1)) ≤ cst K gs := by
 refine ⟨by rw [List.take_succ_eq_append_getElem h, cst_split]; simp [cst], ?_⟩
 have := cst_split K (gs.take (k + 1)) (gs.drop (k + 1))
 rw [List.take_append_drop] at this
 omega
theorem cst_le (K : Nat) (T : Int) : ∀ (gs : List (Grp PC)) (m : Int), gs.Pairwise (fun g h => g.end_ < h.at_) → (∀ g ∈ gs, m ≤ g.at_ ∧ g.at_ ≤ g.end_ ∧ g.end_ ≤ T) → m ≤ T →
    (cst K gs : Int) ≤ 2 * ((gs.flatMap Grp.left).length + (gs.flatMap Grp.right).length) * K + 2 * (T - m + insP (gs.flatMap Grp.left) + insP (gs.flatMap Grp.right))
 | [], m, _, _, hm => by simp [cst, insP]; omega
 | g :: gs, m, hp, hg, hm => by
  obtain ⟨p1, p2⟩ := List.pairwise_cons.1 hp
  obtain ⟨a1, a2, a3⟩ := hg g (by simp)
  have ih := cst_le K T gs g.end_ p2 (fun x hx => by
   obtain ⟨b1, b2, b3⟩ := hg x (by simp [hx])
   have := p1 x hx
   exact ⟨by omega, b2, b3⟩) a3
  simp only [List.flatMap_cons, insP_append, List.length_append, cst]
  have e : (2 * (((g.left.length + (gs.flatMap Grp.left).length : Nat) : Int) + ((g.right.length + (gs.flatMap Grp.right).length : Nat) : Int)) * (K : Int)) = 2 * ((g.left.length : Int) + g.right.length) * K + 2 * (((gs.flatMap Grp.left).length : Int) + (gs.flatMap Grp.right).length) * K := by
   rw [← Int.add_mul]
   congr 1
   omega
  rw [e]
  have e2 : ((2 * (g.left.length + g.right.length) * K : Nat) : Int) = 2 * ((g.left.length : Int) + g.right.length) * K := by push_cast; rfl
  generalize 2 * (((gs.flatMap Grp.left).length : Int) + (gs.flatMap Grp.right).length) * K = u at *
  generalize 2 * ((g.left.length : Int) + g.right.length) * K = v at *
  omega
theorem sides_two {t : List Int} {g : Grp PC} (he : g.end_ ≤ t.length) (h0 : 0 ≤ g.at_) (hl : within g.end_ g.at_ g.left) (hr : within g.end_ g.at_ g.right) (hs : g.end_ - g.at_ ≤ smN PC.n g.left + smN PC.n g.right) :
    2 * (sdl t g).length + 2 * (sdr t g).length ≤ 2 * ((g.end_ - g.at_).toNat + insP g.left + insP g.right) := by
 have a := sdG_len t he g.left g.at_ h0 hl
 have b := sdG_len t he g.right g.at_ h0 hr
 rw [smN_del, smN_del] at hs
 unfold sdl sdr
 omega
def GsF (w : World) (t : List Int) (L : List Ent) (zs : List Gm) (xs : Nat → Int × Int) (hs : List (Grp PC)) : Prop :=
 ∀ i (h1 : i < zs.length) (h2 : i < hs.length), GmF w zs[i] t L hs[i] (xs i).1 (xs i).2
theorem GmF.ks {S : Nat → Prop} {B mb : Nat} {w w' : World} {z : Gm} {t : List Int} {L L' : List Ent} {h : Grp PC} {x y : Int} {n : Nat} (g : GmF w z t L h x y) (hk : Ks S B mb w w') (hS : ¬ S z.gb) (hd : DOk L) (hg : Grows L L' n) : GmF w' z t L' h x y :=
 ⟨hk.cells _ _ _ _ g.box (by decide) hS, g.lv, g.rv, (by obtain ⟨d, b⟩ := g.bx; exact ⟨d, hg.balz hd b⟩), (by obtain ⟨d, b⟩ := g.by_; exact ⟨d, hg.balz hd b⟩), g.at_, g.end_⟩
theorem GmD.ks {S : Nat → Prop} {B mb : Nat} {w w' : World} {z : Gm} (g : GmD w z) (hk : Ks S B mb w w') (hS : ∀ i, S i → i < z.lo ∨ z.hi ≤ i ∨ ∃ es c, w.heap[i]? = some (Obj.map es c)) : GmD w' z := by
 have no : ∀ {i : Nat} {cs : Array Value} {t : TypeId} {f : Nat × Nat}, w.heap[i]? = some (Obj.cells cs t f) → z.lo ≤ i → i < z.hi → ¬ S i := fun hb h1 h2 hs => by
  rcases hS _ hs with h | h | ⟨es, c, h⟩
  · omega
  · omega
  · rw [hb] at h; cases h
 refine ⟨hk.cells _ _ _ _ g.box (by decide) (no g.box g.lo g.hi), g.lo, g.hi, hk.owns g.lr (by decide) (fun k hk' => ?_), hk.owns g.rr (by decide) (fun k hk' => ?_), g.lh, g.rh, g.ap⟩
 · obtain ⟨cur, hc⟩ := owns_block g.lr hk'
   exact no hc (g.lr.lt k hk').1 (g.lh k hk')
 · obtain ⟨cur, hc⟩ := owns_block g.rr hk'
   exact no hc (g.rr.lt k hk').1 (g.rh k hk')
theorem sf_in {w : World} {z : Gm} {kb : Nat} (g : GmD w z) {i : Nat} (h : Sf kb z i) : i = kb ∨ (z.lo ≤ i ∧ i < z.hi) := by
 rcases h with e | e | e | e
 · exact .inl e
 · rw [e]; exact .inr ⟨g.lo, g.hi⟩
 · exact .inr ⟨(g.lr.lt i e).1, g.lh i e⟩
 · exact .inr ⟨(g.rr.lt i e).1, g.rh i e⟩
structure MgR (B : Nat) (w w1 wr : World) (mp kb pp tp p mb : Nat) (most : Int) (L : List Ent) (K : Nat) (t : List Int) (gv : Value) (zs : List Gm) (hs : List (Grp PC)) (k : Nat) (L' : List Ent) (xs : Nat → Int × Int) : Prop where
 me : Me B wr mp kb pp tp p mb most L'
 ks : Kk B mb kb w wr
 gu : Gu L L' (cst K (hs.take k))
 row : wr.ownsRow w.heap.size 71 1 gv zs.length (zs.flatMap gpz)
 done : ∀ i (h1 : i < zs.length) (h2 : i < hs.length), i < k → GmF wr zs[i] t L' hs[i] (xs i).1 (xs i).2
 todo : ∀ i (h1 : i < zs.length), k ≤ i → GmD wr zs[i]
theorem MgR.step {B : Nat} {w w1 wr w' : World} {mp kb pp tp p mb : Nat} {most : Int} {L : List Ent} {K : Nat} {t : List Int} {gv : Value} {zs : List Gm} {hs : List (Grp PC)} {k : Nat} {L' L2 : List Ent} {xs : Nat → Int × Int} {x y : Int} {n : Nat} (h : MgR B w w1 wr mp kb pp tp p mb most L K t gv zs hs k L' xs)
    (hk : k < zs.length) (hk2 : k < hs.length) (hasc : zs.Pairwise fun x y => x.hi ≤ y.lo) (hlo : ∀ z ∈ zs, w.heap.size ≤ z.lo) (hgb : ∀ z ∈ zs, z.gb < z.hi)
    (hm : Me B w' mp kb pp tp p mb most L2) (hK : Ks (Sf kb zs[k]) B mb wr w') (hg : Gu L' L2 n) (hn : cst K (hs.take k) + n ≤ cst K (hs.take (k + 1))) (hf : GmF w' zs[k] t L2 hs[k] x y) :
    MgR B w w1 w' mp kb pp tp p mb most L K t gv zs hs (k + 1) L2 (fun i => if i = k then (x, y) else xs i) := by
 have gk := h.todo k hk (Nat.le_refl _)
 have hkm : ∃ es c, wr.heap[kb]? = some (Obj.map es c) := by
  obtain ⟨T, kn, hq⟩ := h.me
  exact ⟨_, _, hq.kmap⟩
 have hap : ∀ i (h1 : i < zs.length), i ≠ k → zs[i].hi ≤ zs[k].lo ∨ zs[k].hi ≤ zs[i].lo := fun i h1 hne => by
  have hp := List.pairwise_iff_getElem.1 hasc
  rcases Nat.lt_or_gt_of_ne hne with c | c
  · exact .inl (hp i k h1 hk c)
  · exact .inr (hp k i hk h1 c)
 refine ⟨hm, Ks.next h.ks hK (fun i h1 e => ?_), h.gu.trans hg hn, hK.owns h.row (by decide) (fun j hj e => ?_), fun i h1 h2 hi => ?_, fun i h1 hi => ?_⟩
 · rcases sf_in gk e with e | e
   · exact e
   · have := hlo _ (List.getElem_mem hk); omega
 · obtain ⟨cur, hc⟩ := owns_block h.row hj
   rcases e with e | e | e | e
   · obtain ⟨es, c, hkm⟩ := hkm
     rw [← e, hc] at hkm; cases hkm
   · rw [e, gk.box] at hc; cases hc
   · obtain ⟨cur2, hc2⟩ := owns_block gk.lr e
     rw [hc] at hc2; cases hc2
   · obtain ⟨cur2, hc2⟩ := owns_block gk.rr e
     rw [hc] at hc2; cases hc2
 · by_cases e : i = k
   · subst e
     simpa using hf
   · have hd := h.done i h1 h2 (by omega)
     simp only [if_neg e]
     refine hd.ks hK (fun s => ?_) h.gu.gr.dok hg.gr
     rcases sf_in gk s with s | s
     · obtain ⟨es, c, hkm⟩ := hkm
       rw [← s, hd.box] at hkm; cases hkm
     · have b1 := hgb _ (List.getElem_mem h1)
       have b2 := List.pairwise_iff_getElem.1 hasc i k h1 hk (by omega)
       omega
 · have hd := h.todo i h1 (by omega)
   refine hd.ks hK (fun j s => ?_)
   rcases sf_in gk s with s | s
   · rw [s]; exact .inr (.inr hkm)
   · rcases hap i h1 (by omega) with a | a
     · exact .inr (.inl (by omega))
     · exact .inl (by omega)
def MgPost (B : Nat) (w : World) (mp kb pp tp p mb : Nat) (most : Int) (L : List Ent) (t : List Int) (hs : List (Grp PC)) (N : Nat) (e : Ending) (w' : World) : Prop :=
 ∃ L' gv zs xs, e = .returned (.tuple #[gv, .nilIface]) ∧ Me B w' mp kb pp tp p mb most L' ∧ Kk B mb kb w w' ∧ Gu L L' N ∧ zs.length = hs.length ∧ w'.ownsRow w.heap.size 71 1 gv zs.length (zs.flatMap gpz) ∧ GsF w' t L' zs xs hs
structure Two2 (B : Nat) (w : World) (L : List Ent) (id : Int) (t : List Int) (d : Int) (a b : Option Addr) (ca cb : Nat) (cs ds : List Chg) (ps qs : List PC) : Prop where
 text : BalZ L id t d
 ra : RG Chg.vals 3 B w a cs
 rb : RG Chg.vals 3 B w b ds
 ca : cs.length ≤ ca
 cb : ds.length ≤ cb
 hp : PChg L cs ps
 hq : PChg L ds qs
 vp : validP t.length (-1) ps = true
 vq : validP t.length (-1) qs = true
 sz : t.length + insP ps + insP qs + cs.length + ds.length ≤ 500
theorem Two2.kept0 {B : Nat} {w w' : World} {L : List Ent} {id : Int} {t : List Int} {d : Int} {a b : Option Addr} {ca cb : Nat} {cs ds : List Chg} {ps qs : List PC} (h : Two2 B w L id t d a b ca cb cs ds ps qs) (hf : Fr0 w w') : Two2 B w' L id t d a b ca cb cs ds ps qs :=
 ⟨h.text, h.ra.kept0 hf, h.rb.kept0 hf, h.ca, h.cb, h.hp, h.hq, h.vp, h.vq, h.sz⟩
theorem two_Length {B : Nat} {w : World} {p mb : Nat} {most : Int} {L : List Ent} {cs : List Chg} {ps : List PC} {a : Option Addr} {ca : Nat} {T : Nat} (hS : Sto B w p mb most L) (hO : SOk L) (hD : DOk L) (hA : RG Chg.vals 3 B w a cs) (hP : PChg L cs ps) (hv : validP T (-1) ps = true) (hT : T + insP ps + cs.length ≤ 500) :
    ∃ v, Calls Tryz.prog 13 #[.pointer (some ⟨p, 0, none⟩), .int .i64 T, .slice a cs.length ca] w fun e w' => e = .returned (.tuple #[.int .i64 v, .nilIface]) ∧ Fr0 w w' := by
 obtain ⟨sv, hSt, _⟩ := hS
 have hf : formedFrom T (-1) cs = true := by rw [hP.valid hD hO]; exact hv
 have hdel := delP_nn hv
 exact ⟨_, pat_Length_ok hSt hO T (by omega) (by omega) a ca cs (chgs_of_rg hA) (by omega) hP.known hf (by rw [hP.del, hP.ins hD hO]; omega)⟩
theorem chg_bounds {L : List Ent} {cs : List Chg} {ps : List PC} {T : Int} (hP : PChg L cs ps) (hv : validP T (-1) ps = true) : ∀ c ∈ cs, 0 ≤ c.at_ ∧ 0 ≤ c.n ∧ c.at_ + c.n ≤ T := by
 intro c hc
 obtain ⟨i, hi, rfl⟩ := List.getElem_of_mem hc
 have hl := hP.len
 obtain ⟨e1, e2, _⟩ := hP.get i hi (by omega)
 have := (validP_asc hv).2 ps[i] (List.getElem_mem _)
 rw [e1, e2]
 exact ⟨this.1, this.2.1, this.2.2.1⟩
set_option maxRecDepth 100000 in
set_option maxHeartbeats 4000000 in
theorem mr_merge (D : Nat) {B : Nat} {w : World} {mp kb pp tp p mb : Nat} {most : Int} {L : List Ent} {id : Int} {t : List Int} {d : Int} {a b : Option Addr} {ca cb : Nat} {cs ds : List Chg} {ps qs : List PC} {NM : Nat} (hm : Me B w mp kb pp tp p mb most L) (h2 : Two2 B w L id t d a b ca cb cs ds ps qs) (hD : 600 < lst (D + 1))
    (hNM : NM = 2 * (cs.length + ds.length) * (17 * D + 3) + 2000) (hmost : ((L.length + NM : Nat) : Int) ≤ most) (hL : L.length + NM ≤ 500000) :
    Calls Tryz.prog 19 #[.pointer (some ⟨mp, 0, none⟩), .int .i64 id, .slice a cs.length ca, .slice b ds.length cb] w (MgPost B w mp kb pp tp p mb most L t (dvdG PC.at_ PC.n ps qs) NM) := by
 have hsz := h2.sz
 obtain ⟨hs, hhs⟩ : ∃ hs, dvdG PC.at_ PC.n ps qs = hs := ⟨_, rfl⟩
 rw [hhs]
 have HHS := Lib.hid hhs
 clear hhs
 have hmq := hm
 obtain ⟨T, kn, hq⟩ := hmq
 have CP := Lib.hid (fun W (hW : Fr0 w W) => cn_Parser (hq.kept0 hW).box)
 have CS := Lib.hid (fun W (hW : Fr0 w W) => sig_Store (hq.kept0 hW).pq)
 have hlen := h2.text.len hm.dok hm.sok
 have CW := Lib.hid (fun W (hW : Fr0 w W) => sto_Weight (hm.kept0 hW).st id h2.text.known)
 rw [← hlen] at CW
 have CB : Hid (∀ W, Fr0 w W → Calls Tryz.prog 23 #[.pointer (some ⟨p, 0, none⟩), .int .i64 id] W fun e w' => e = .returned (.tuple #[.bool true, .nilIface]) ∧ Fr0 W w') := fun W hW => by
  obtain ⟨sv, hS, _⟩ := (hm.kept0 hW).st
  have := avl_Balanced hS id h2.text.known
  rw [h2.text.even] at this
  exact this
 have CL1 : Hid (∀ W, Fr0 w W → ∃ v, Calls Tryz.prog 13 #[.pointer (some ⟨p, 0, none⟩), .int .i64 t.length, .slice a cs.length ca] W fun e w' => e = .returned (.tuple #[.int .i64 v, .nilIface]) ∧ Fr0 W w') := fun W hW => two_Length (hm.kept0 hW).st hm.sok hm.dok (h2.ra.kept0 hW) h2.hp h2.vp (by omega)
 have CL2 : Hid (∀ W, Fr0 w W → ∃ v, Calls Tryz.prog 13 #[.pointer (some ⟨p, 0, none⟩), .int .i64 t.length, .slice b ds.length cb] W fun e w' => e = .returned (.tuple #[.int .i64 v, .nilIface]) ∧ Fr0 W w') := fun W hW => two_Length (hm.kept0 hW).st hm.sok hm.dok (h2.rb.kept0 hW) h2.hq h2.vq (by omega)
 have CD := Lib.hid (fun W (hW : Fr0 w W) => mr_divide (h2.ra.kept0 hW) (h2.rb.kept0 hW) h2.ca h2.cb (by omega) (fun c hc => by
  rcases List.mem_append.1 hc with hc | hc
  · have := chg_bounds h2.hp h2.vp c hc; omega
  · have := chg_bounds h2.hq h2.vq c hc; omega))
 have HME := Lib.hid hm
 have HTW := Lib.hid h2
 have HDD := Lib.hid hD
 obtain ⟨c0, c1, cf, lmp⟩ := cells2 hq.box
 generalize (entAt L id).wt = wt at *
 clear hm h2 hq hlen hD
 go_enter Tryz.func19, Tryz.ntmps19
 go_wp2_with fail
 refine (CP.out w (Fr0.refl w)).mono ?_
 rintro e w1 ⟨rfl, rfl⟩
 go_wp2_with fail
 refine (CP.out w (Fr0.refl w)).mono ?_
 rintro e w1 ⟨rfl, rfl⟩
 go_wp2_with fail
 refine (CS.out w (Fr0.refl w)).mono ?_
 rintro e w1 ⟨rfl, rfl⟩
 go_wp2_with fail
 refine (CP.out w (Fr0.refl w)).mono ?_
 rintro e w1 ⟨rfl, rfl⟩
 go_wp2_with fail
 refine (CS.out w (Fr0.refl w)).mono ?_
 rintro e w1 ⟨rfl, rfl⟩
 go_wp2_with fail
 refine (CW.out w (Fr0.refl w)).mono ?_
 rintro e w1 ⟨rfl, f1⟩
 clear CP CS CW c0 c1 cf lmp
 go_upto_region 5 with fail
 have F2 : Fr0 w (w1.alloc (.cells #[.int .i64 t.length, .int .i64 wt.lines, .int .i64 wt.head, .int .i64 wt.tail, .int .u64 wt.val, .int .u64 wt.scale] 47 (0, 0))) := f1.alloc _
 have b2 := alloc_at w1 (.cells #[.int .i64 t.length, .int .i64 wt.lines, .int .i64 wt.head, .int .i64 wt.tail, .int .u64 wt.val, .int .u64 wt.scale] 47 (0, 0)) w1.heap.size rfl
 generalize w1.alloc (.cells #[.int .i64 t.length, .int .i64 wt.lines, .int .i64 wt.head, .int .i64 wt.tail, .int .u64 wt.val, .int .u64 wt.scale] 47 (0, 0)) = W2 at *
 generalize w1.heap.size = K at *
 have HB2 := Lib.hid b2
 have HF2 := Lib.hid F2
 clear b2 F2 f1
 go_wp2_with fail
 refine (CB.out W2 HF2.out).mono ?_
 rintro e w3 ⟨rfl, f3⟩
 have HB3 := Lib.hid (f3.kept HB2.out)
 have HF3 := Lib.hid (HF2.out.trans f3)
 clear HB2 HF2 f3 CB
 go_upto_region 13 with fail
 have F4 : Fr0 w (w3.alloc (.cells #[.slice a cs.length ca, .slice b ds.length cb] 29 (0, 0))) := HF3.out.alloc _
 have b4 := alloc_at w3 (.cells #[.slice a cs.length ca, .slice b ds.length cb] 29 (0, 0)) w3.heap.size rfl
 have b5 := ((Fr0.refl w3).alloc (.cells #[.slice a cs.length ca, .slice b ds.length cb] 29 (0, 0))).kept HB3.out
 generalize w3.alloc (.cells #[.slice a cs.length ca, .slice b ds.length cb] 29 (0, 0)) = W4 at *
 generalize w3.heap.size = Z at *
 have HB4 := Lib.hid b4
 have HB5 := Lib.hid b5
 have HF4 := Lib.hid F4
 clear b4 b5 F4 HB3 HF3
 go_loopg [65] 2 (fun gk i wr => ∃ k : Nat, k + gk = 2 ∧ i = .int .i64 k ∧ Fr0 W4 wr)
 case atStart => exact ⟨0, rfl, rfl, Fr0.refl _⟩
 case round =>
  obtain ⟨k, hk, rfl, hf⟩ := hrel
  obtain ⟨z0, z1, zf, lz⟩ := cells2 (hf.kept HB4.out)
  obtain ⟨e0, _, _, _, _, _, le, _⟩ := cells6t (hf.kept HB5.out)
  have HF := Lib.hid hf
  have hfw := Lib.hid (HF4.out.trans hf)
  clear hf
  match k, hk with
  | 0, hk =>
   obtain ⟨v, cl⟩ := CL1.out wr hfw.out
   have CL := Lib.hid cl
   clear cl CL1 CL2 CD HME HTW HDD HB4 HB5
   go_wp2_with fail
   refine CL.out.mono ?_
   rintro e w5 ⟨rfl, f5⟩
   go_wp2_with fail
   go_roundg 1
   case measure => omega
   case rel => exact ⟨1, rfl, by go_num, HF.out.trans f5⟩
  | 1, hk =>
   obtain ⟨v, cl⟩ := CL2.out wr hfw.out
   have CL := Lib.hid cl
   clear cl CL1 CL2 CD HME HTW HDD HB4 HB5
   go_wp2_with fail
   refine CL.out.mono ?_
   rintro e w5 ⟨rfl, f5⟩
   go_wp2_with fail
   go_roundg 0
   case measure => omega
   case rel => exact ⟨2, rfl, by go_num, HF.out.trans f5⟩
  | k + 3, hk => omega
  | 2, hk =>
   have CD2 := Lib.hid (CD.out wr hfw.out)
   clear CL1 CL2 CD HB4 HB5 z0 z1 zf lz e0 le
   go_wp2_with fail
   refine CD2.out.mono ?_
   rintro e w6 ⟨gv, zs, rfl, hdv, hzs⟩
   have F6 : Fr0 w w6 := hfw.out.trans hdv.fr
   have hhs := HHS.out
   have hG := groups_ok HTW.out.vp HTW.out.vq
   rw [hhs] at hG
   have hrel := dvdG_rel HTW.out.hp HTW.out.hq
   rw [hhs, ← hzs] at hrel
   have hlz : zs.length = hs.length := by have := hrel.len; rwa [List.length_map] at this
   have HREL : Hid (∀ i (h1 : i < zs.length) (h2 : i < hs.length), GRel L zs[i].g hs[i]) := fun i h1 h2 => by
    have := hrel.get i (by rw [List.length_map]; exact h1) h2
    rwa [List.getElem_map] at this
   have hws : w.heap.size ≤ wr.heap.size := hfw.out.size
   have HLO : Hid (∀ z ∈ zs, w.heap.size ≤ z.lo) := fun z hz => Nat.le_trans hws (hdv.all z hz).2.1
   have HGB : Hid (∀ z ∈ zs, z.gb < z.hi) := fun z hz => (hdv.all z hz).1.hi
   have HASC := Lib.hid hdv.asc
   have hcst : cst (17 * D + 3) hs ≤ NM := by
    obtain ⟨m, G⟩ := hG.gi
    have := cst_le (17 * D + 3) t.length hs 0 G.asc (fun g hg => by have := hG.inside g hg; exact ⟨this.1, this.2.1, this.2.2.1⟩) (by omega)
    rw [hG.lefts, hG.rights] at this
    have l1 := HTW.out.hp.len
    have l2 := HTW.out.hq.len
    have e : (2 * ((ps.length : Int) + qs.length) * ((17 * D + 3 : Nat) : Int)) = ((2 * (cs.length + ds.length) * (17 * D + 3) : Nat) : Int) := by rw [l1, l2]; push_cast; rfl
    rw [e] at this
    omega
   have hzb : zs.length ≤ 1000 := by
    have hx : ∀ (hs : List (Grp PC)), (∀ g ∈ hs, g.left ≠ [] ∨ g.right ≠ []) → hs.length ≤ (hs.flatMap Grp.left).length + (hs.flatMap Grp.right).length := by
     intro hs
     induction hs with
     | nil => intro _; simp
     | cons g r ih =>
      intro h
      have := ih (fun x hx => h x (by simp [hx]))
      simp only [List.flatMap_cons, List.length_append, List.length_cons]
      rcases h g (by simp) with h | h
      · have := List.length_pos_iff.2 h; omega
      · have := List.length_pos_iff.2 h; omega
    obtain ⟨m, G⟩ := hG.gi
    have := hx hs G.ne
    rw [hG.lefts, hG.rights] at this
    have l1 := HTW.out.hp.len
    have l2 := HTW.out.hq.len
    omega
   have H0 : Hid (MgR B w w6 w6 mp kb pp tp p mb most L (17 * D + 3) t gv zs hs 0 L (fun _ => (0, 0))) :=
    ⟨HME.out.kept0 F6, Kk.of0 F6, (Gu.refl HME.out.sok HME.out.dok HME.out.uq).le (Nat.zero_le _), owns_dn hdv.row hws, fun i _ _ h => absurd h (by omega), fun i h1 _ => (hdv.all _ (List.getElem_mem h1)).1⟩
   obtain ⟨va, vc, rfl⟩ := owns_form hdv.row
   have HLZ := Lib.hid hlz
   have HG := Lib.hid hG
   have HBW := HME.out.base
   clear hdv hzs hhs hrel hG CD2 F6 hlz HHS
   go_wp2_with fail
   go_loopg [86] zs.length (fun gk i wx => ∃ (k : Nat) (L' : List Ent) (xs : Nat → Int × Int), k + gk = zs.length ∧ i = .int .i64 k ∧ MgR B w w6 wx mp kb pp tp p mb most L (17 * D + 3) t (.slice va zs.length vc) zs hs k L' xs)
   case atStart => exact ⟨0, L, _, by omega, rfl, H0.out⟩
   case round =>
    obtain ⟨k, L', xs, hk2, rfl, hr⟩ := hrel
    clear H0
    by_cases hlt : k < zs.length
    · have hlt2 : k < hs.length := by have := HLZ.out; omega
      obtain ⟨b5, o5, e5, l5, _, hc5⟩ := owns_rd (vals := gpz) (size := 1) (B := 0) (fun _ _ => rfl) hr.row (by decide) (by decide) k hlt
      have c5 := hc5 0 _ rfl
      rw [Nat.mul_one, Nat.add_zero] at c5
      subst e5
      have hg := HG.out.inside hs[k] (List.getElem_mem hlt2)
      obtain ⟨m, G⟩ := HG.out.gi
      have hsiz := G.siz hs[k] (List.getElem_mem hlt2)
      have hshort := HG.out.short hs[k] (List.getElem_mem hlt2)
      have hsl : (sdl t hs[k]).length + (sdr t hs[k]).length ≤ t.length + insP ps + insP qs := hshort
      have hgr := (HREL.out k hlt hlt2).more hr.gu.gr HME.out.dok
      have l1 := hgr.left.len
      have l2 := hgr.right.len
      have hpp := (validP_asc HTW.out.vp).1
      have hqq := (validP_asc HTW.out.vq).1
      rw [← HG.out.lefts] at hpp
      rw [← HG.out.rights] at hqq
      obtain ⟨q1, q2⟩ := cst_take (17 * D + 3) hs k hlt2
      have hgl := hr.gu.gr.len
      obtain ⟨E, hE⟩ : ∃ E, 2 * ((hs[k].end_ - hs[k].at_).toNat + insP hs[k].left + insP hs[k].right) = E := ⟨_, rfl⟩
      have htwo := sides_two hg.2.2.1 hg.1 hg.2.2.2.1 hg.2.2.2.2 hsiz
      rw [hE] at htwo q1
      have e1 : 2 * (hs[k].left.length + hs[k].right.length) * (17 * D + 3) = 2 * zs[k].g.left.length * (17 * D + 3) + 2 * zs[k].g.right.length * (17 * D + 3) := by rw [l1, l2, ← Nat.add_mul, ← Nat.mul_add]
      rw [e1] at q1
      have hlz1 : zs[k].g.left.length ≤ 100000 ∧ zs[k].g.right.length ≤ 100000 := by
       have a1 : hs[k].left.length ≤ (hs.flatMap Grp.left).length ∧ hs[k].right.length ≤ (hs.flatMap Grp.right).length := by
        have hx : ∀ (hs : List (Grp PC)) (g : Grp PC), g ∈ hs → g.left.length ≤ (hs.flatMap Grp.left).length ∧ g.right.length ≤ (hs.flatMap Grp.right).length := by
         intro hs
         induction hs with
         | nil => intro g h; simp at h
         | cons y r ih =>
          intro g h
          simp only [List.flatMap_cons, List.length_append]
          rcases List.mem_cons.1 h with rfl | h
          · omega
          · have := ih g h; omega
        exact hx hs _ (List.getElem_mem hlt2)
       rw [HG.out.lefts, HG.out.rights] at a1
       have := HTW.out.hp.len
       have := HTW.out.hq.len
       omega
      have CF := Lib.hid (mr_fill D (N := 2 * zs[k].g.left.length * (17 * D + 3) + 2 * zs[k].g.right.length * (17 * D + 3) + E) (E := E) hr.me (hr.todo k hlt (Nat.le_refl _)) (Nat.le_trans HBW (HLO.out _ (List.getElem_mem hlt))) hgr (hr.gu.gr.balz HME.out.dok HTW.out.text) hg (sub_pair (f := Grp.left) hpp _ (List.getElem_mem hlt2)) (sub_pair (f := Grp.right) hqq _ (List.getElem_mem hlt2)) (by omega) HDD.out (by omega) (by omega) (fun e => by omega) (fun _ _ => htwo) rfl (by omega) (by omega) hlz1.1 hlz1.2)
      have HST := Lib.hid (fun w' L2 x y (h1 : Me B w' mp kb pp tp p mb most L2) h2 (h3 : Gu L' L2 (2 * zs[k].g.left.length * (17 * D + 3) + 2 * zs[k].g.right.length * (17 * D + 3) + E)) h4 => hr.step (w' := w') (L2 := L2) (x := x) (y := y) hlt hlt2 HASC.out HLO.out HGB.out h1 h2 h3 (by omega) h4)
      clear hr hg G hsiz hshort hsl hgr l1 l2 hpp hqq q1 q2 hgl htwo e1 hlz1 hE hc5 hcst
      go_wp2_with fail
      refine CF.out.mono ?_
      rintro e w7 ⟨L2, x, y, rfl, hm7, hk7, hg7, hf7⟩
      have HX := HST.out w7 L2 x y hm7 hk7 hg7 hf7
      clear hm7 hk7 hg7 hf7 CF HST
      go_wp2_with fail
      go_roundg (gk - 1)
      case measure => omega
      case rel => exact ⟨k + 1, L2, _, by omega, by go_num, HX⟩
    · have hke : k = zs.length := by omega
      have HP : Hid (MgPost B w mp kb pp tp p mb most L t hs NM (.returned (.tuple #[.slice va zs.length vc, .nilIface])) wr) :=
       ⟨L', _, zs, xs, rfl, hr.me, hr.ks, hr.gu.le (by rw [List.take_of_length_le (by have := HLZ.out; omega)]; exact hcst), HLZ.out, hr.row, fun i h1 h2 => hr.done i h1 h2 (by omega)⟩
      clear hr hke hcst
      go_wp2_with fail
      go_ret2
      exact HP.out
end Go.Proofs.YtgldjpldldknoaaGreatDoor

/- The walk of Parser.Of. -/
import Derived.Test.YtgldjpldldknoaaGreatDoorRSw7
import Derived.Test.YtgldjpldldknoaaGreatDoorRKw5
import Derived.Test.YtgldjpldldknoaaGreatDoorRKy0
import Derived.Test.YtgldjpldldknoaaGreatDoorRPq1
import Derived.Test.YtgldjpldldknoaaGreatDoorRSt5
set_option linter.unusedSimpArgs false
set_option linter.unusedVariables false
namespace Go.Proofs.YtgldjpldldknoaaGreatDoor
open Go.RowKit
structure OfI (L : List Ent) (bs : List Int) (l : Int) (Lm : List Ent) (ids : List Int) : Prop where
 gu : Gu L Lm (2 * bs.length - ids.length)
 seq : SeqI Lm l ids
 text : txts Lm ids = bs
 ne : ids ≠ []
 len : ids.length ≤ bs.length
 l1 : 1 ≤ l
 ch : ChI Lm bs (l - 1).toNat ids
theorem OfI.start {L : List Ent} {bs : List Int} (hS : SOk L) (hD : DOk L) (hU : Uq L) (hb : ∀ b ∈ bs, 0 ≤ b ∧ b < 256) (h0 : bs ≠ []) : OfI L bs 1 (letF L bs).1 (letF L bs).2 := by
 obtain ⟨h1, h2, h3, h4⟩ := letF_ok bs L hS hD hU hb
 have := List.length_pos_iff.2 h0
 refine ⟨h1.le (by omega), letF_seq hS hD hU hb, h3, fun e => ?_, by omega, by omega, ChI.start hS hD hU hb⟩
 rw [e] at h4
 simp at h4
 omega
theorem OfI.step {L : List Ent} {bs : List Int} {l : Int} {Lm : List Ent} {ids : List Int} (h : OfI L bs l Lm ids) (hn : bs.length ≤ 65536) (h2 : 1 < ids.length) :
    OfI L bs (l + 1) (lvL l Lm ids).1 (lvL l Lm ids).2 ∧ meas (l + 1) (lvL l Lm ids).1 (lvL l Lm ids).2 < meas l Lm ids := by
 have ht : (txts Lm ids).length ≤ 1152921504606846976 := by rw [h.text]; omega
 obtain ⟨h1, h3⟩ := lvL_ok h.l1 h.gu.gr.sok h.gu.gr.dok h.gu.uq h.seq ht
 have hl := h1.len
 have hlen := h.len
 have hl1 := h.l1
 have hc : ChI (lvL l Lm ids).1 bs ((l + 1) - 1).toNat (lvL l Lm ids).2 := by
  have el : (((l - 1).toNat : Nat) : Int) + 1 = l := by omega
  have := h.ch.step h.gu.gr.dok h2 (by rw [el]; exact h1.gu.gr.dok) (by rw [el]; exact fun u hu => h1.seq.kn u hu)
  rw [el] at this
  rw [show ((l + 1) - 1).toNat = (l - 1).toNat + 1 by omega]
  exact this
 refine ⟨⟨h.gu.trans h1.gu (by omega), h1.seq, by rw [h1.text, h.text], h3 h.ne, by omega, by omega, hc⟩, meas_lt h.l1 h.gu.gr.sok h.gu.gr.dok h.gu.uq h.seq ht h2⟩
structure OfR (B : Nat) (w wr : World) (pp tp p mb : Nat) (most : Int) (Lm : List Ent) (ids : List Int) (rb : Nat) (iv kv : Value) : Prop where
 ex : ∃ T, Pq B wr pp tp p mb most Lm T
 kx : Kx B mb w wr
 box : wr.heap[rb]? = some (Obj.cells #[iv, kv] 164 (0, 0))
 ri : wr.ownsRow w.heap.size 28 1 iv ids.length (ids.map fun x => Value.int .i64 x)
 rk : wr.ownsRow w.heap.size 43 1 kv ids.length ((ids.map (kkey Lm)).map fun x => Value.int .u64 x)
 rb : w.heap.size ≤ rb
theorem two_no {b1 b2 : Nat} {w : World} {iv kv : Value} {ids ys : List Int} {n m : Nat} {f1 f2 : Int → Value} (ri : w.ownsRow b1 28 1 iv n (ids.map f1)) (rk : w.ownsRow b2 43 1 kv m (ys.map f2)) {b : Nat} {cs : Array Value} {t : TypeId} {f : Nat × Nat} (hb : w.heap[b]? = some (Obj.cells cs t f)) (h2 : t ≠ 28) (h3 : t ≠ 43) : ¬ twoS iv kv b := by
 rintro (e | e)
 · obtain ⟨cur, hc⟩ := owns_block ri e
   rw [hb] at hc
   cases hc
   exact h2 rfl
 · obtain ⟨cur, hc⟩ := owns_block rk e
   rw [hb] at hc
   cases hc
   exact h3 rfl
theorem OfR.step {B : Nat} {w wr w2 : World} {pp tp p mb : Nat} {most : Int} {Lm L2 : List Ent} {ids out : List Int} {rb : Nat} {iv kv iv2 kv2 : Value} {T2 : List KRow} (h : OfR B w wr pp tp p mb most Lm ids rb iv kv) (hB : B ≤ w.heap.size) (hP2 : Pq B w2 pp tp p mb most L2 T2) (hk : Ks (twoS iv kv) B mb wr w2)
    (hi2 : w2.ownsRow w.heap.size 28 1 iv2 out.length (out.map fun x => Value.int .i64 x)) (hk2 : w2.ownsRow w.heap.size 43 1 kv2 out.length ((out.map (kkey L2)).map fun x => Value.int .u64 x)) :
    w2.heap[rb]? = some (Obj.cells #[iv, kv] 164 (0, 0)) ∧ OfR B w ((w2.setCell ⟨rb, 0, none⟩ iv2).setCell ⟨rb, 1, none⟩ kv2) pp tp p mb most L2 out rb iv2 kv2 := by
 have hrb := h.rb
 have b2 := hk.cells _ _ _ _ h.box (by decide) (two_no h.ri h.rk h.box (by decide) (by decide))
 have hf : Fr (fun k => k = rb) w2 ((w2.setCell ⟨rb, 0, none⟩ iv2).setCell ⟨rb, 1, none⟩ kv2) := fr_set1 (fr_set1 (Fr.refl _ w2) 0 _) 1 _
 refine ⟨b2, ⟨T2, hP2.keptO ((Ko.refl B w2).fr hf (fun i hi => by subst hi; exact ⟨by omega, _, _, _, b2, by decide⟩))⟩, ?_, put2 b2 _ _, hf.owns hi2 (fun z hz e => ?_), hf.owns hk2 (fun z hz e => ?_), hrb⟩
 · refine Ks.fr (Ks.next h.kx hk (fun i h1 h2 => ?_)) hf (fun i h1 h2 => by omega)
   rcases h2 with e | e
   · rcases h.ri.2 with ⟨e2, _⟩ | ⟨g, cap, cur, e2, hb, _⟩
     · rw [e2] at e; cases e
     · rw [e2] at e; have e3 : some g = some i := e; have := Option.some.inj e3; omega
   · rcases h.rk.2 with ⟨e2, _⟩ | ⟨g, cap, cur, e2, hb, _⟩
     · rw [e2] at e; cases e
     · rw [e2] at e; have e3 : some g = some i := e; have := Option.some.inj e3; omega
 · obtain ⟨cur, hc⟩ := owns_block hi2 hz
   rw [e] at hc
   exact ne_of_types hc b2 (by decide) rfl
 · obtain ⟨cur, hc⟩ := owns_block hk2 hz
   rw [e] at hc
   exact ne_of_types hc b2 (by decide) rfl
def OfPostS (B : Nat) (w : World) (pp tp p mb : Nat) (most : Int) (L : List Ent) (bs : List Int) (e : Ending) (w' : World) : Prop :=
 ∃ L' T' id, e = .returned (.tuple #[.int .i64 id, .nilIface]) ∧ Pq B w' pp tp p mb most L' T' ∧ Kx B mb w w' ∧ Gu L L' (2 * bs.length) ∧ isKnown L' id ∧ id ≠ 0 ∧ txt L' id = bs ∧ 0 ≤ klev L' id ∧ Sig L' bs id
set_option maxRecDepth 100000 in
set_option maxHeartbeats 4000000 in
theorem sig_OfS {B : Nat} {w : World} {pp tp p mb : Nat} {most : Int} {L : List Ent} {T : List KRow} {bb cap : Nat} {bs : List Int} (h : Pq B w pp tp p mb most L T) (hI : RowC w bb .u8 bs) (hbb : ∃ cs t f, w.heap[bb]? = some (Obj.cells cs t f) ∧ tyP t = false) (hb : ∀ b ∈ bs, 0 ≤ b ∧ b < 256) (h0 : bs ≠ []) (hn : bs.length ≤ 65536) (hm : ((L.length + 2 * bs.length : Nat) : Int) ≤ most) (hL : L.length + 2 * bs.length ≤ 500000) :
    Calls Tryz.prog 66 #[.pointer (some ⟨pp, 0, none⟩), .slice (some ⟨bb, 0, none⟩) bs.length cap] w (OfPostS B w pp tp p mb most L bs) := by
 obtain ⟨c0, c1, lp⟩ := h.front
 have CL := Lib.hid (sig_letters (cap := cap) h hI hbb hb h0 (by omega) (by omega))
 have HO := Lib.hid (OfI.start h.sok h.dok h.uq hb h0)
 have hB := h.base
 have hn0 : 0 < bs.length := List.length_pos_iff.2 h0
 have q1 : decide (65536 < (bs.length : Int)) = false := decide_eq_false (by omega)
 have q2 : ((bs.length : Int) == 0) = false := by rw [beq_eq_false_iff_ne]; omega
 clear h hI hbb hb h0
 go_enter Tryz.func66, Tryz.ntmps66
 go_wp2_with fail
 refine CL.out.mono ?_
 rintro e w1 ⟨T1, iv, kv, rfl, hp1, hx1, hi1, hk1⟩
 obtain ⟨ai, vi, rfl⟩ := owns_form hi1
 obtain ⟨ak, vk, rfl⟩ := owns_form hk1
 have HP1 := Lib.hid hp1
 have HX1 := Lib.hid hx1
 have HI1 := Lib.hid hi1
 have HK1 := Lib.hid hk1
 have hs1 := hx1.size
 clear hp1 hx1 hi1 hk1 c0 c1 lp CL
 generalize (letF L bs).1 = L1 at *
 generalize (letF L bs).2 = ids1 at *
 have b0 := alloc_at w1 (.cells #[.slice none 0 0, .slice none 0 0] 164 (0, 0)) w1.heap.size rfl
 obtain ⟨d0, d1, df, ld⟩ := cells2 b0
 have F0 := (Fr0.refl w1).alloc (.cells #[.slice ai ids1.length vi, .slice ak ids1.length vk] 164 (0, 0))
 have HR : Hid (OfR B w (w1.alloc (.cells #[.slice ai ids1.length vi, .slice ak ids1.length vk] 164 (0, 0))) pp tp p mb most L1 ids1 w1.heap.size (.slice ai ids1.length vi) (.slice ak ids1.length vk)) :=
  ⟨⟨T1, HP1.out.kept0 F0⟩, HX1.out.trans (Ks.of0 F0), alloc_at w1 _ _ rfl, F0.owns HI1.out, F0.owns HK1.out, hs1⟩
 clear b0 F0 HI1 HK1 HX1 HP1
 go_wp2_with fail
 clear d0 d1 df ld
 go_loopg [8] (meas 1 L1 ids1) (fun gk lv wr => ∃ (l : Int) (Lm : List Ent) (ids : List Int) (iv kv : Value), lv = .int .i64 l ∧ gk = meas l Lm ids ∧ l + gk ≤ 70000000 ∧ OfI L bs l Lm ids ∧ OfR B w wr pp tp p mb most Lm ids w1.heap.size iv kv)
 case atStart =>
  have h5 := HO.out.len
  have := (meas_le (l := 1) (by omega) HO.out.gu.gr.dok HO.out.seq.kn).2
  exact ⟨1, L1, ids1, _, _, rfl, rfl, by omega, HO.out, HR.out⟩
 case round =>
  clear HO HR
  obtain ⟨l, Lm, ids, iv2, kv2, rfl, hgk, hlg, hin, hr⟩ := hrel
  obtain ⟨gi, ci, rfl, hgi, hri, hci1, hci2⟩ := rowC_of_own hr.ri hin.ne
  obtain ⟨gq, ck, hkv, hgk, hrk, hck1, hck2⟩ := rowC_of_own (xs := ids.map (kkey Lm)) (by rw [List.length_map]; exact hr.rk) (by simpa using hin.ne)
  rw [List.length_map] at hkv
  subst hkv
  obtain ⟨d0, d1, df, ld⟩ := cells2 hr.box
  obtain ⟨T2, hP2⟩ := hr.ex
  have hl1 := hin.l1
  have hlen := hin.len
  have hgl := hin.gu.gr.len
  have htx : (txts Lm ids).length ≤ 1152921504606846976 := by rw [hin.text]; omega
  have hbw := hr.kx.size
  have hrz := hr.rb
  have HIN := Lib.hid hin
  have HR := Lib.hid hr
  have HP2 := Lib.hid hP2
  have HRI := Lib.hid hri
  by_cases hlt : 1 < ids.length
  · have q3 : decide (1 < (ids.length : Int)) = true := decide_eq_true (by omega)
    obtain ⟨h5, h6⟩ := HIN.out.step hn hlt
    have h56 : 0 < meas l Lm ids := by omega
    have q6 : IntKind.i64.wrap (l + 1) = l + 1 := wrapI (by omega) (by omega)
    have HST := Lib.hid h5
    have HME := Lib.hid h6
    have CF : Hid (l % 2 = 1 → Calls Tryz.prog 83 #[.pointer (some ⟨pp, 0, none⟩), .agg #[.slice (some ⟨gi, 0, none⟩) ids.length ci, .slice (some ⟨gq, 0, none⟩) ids.length ck]] wr (LevPost w.heap.size B wr pp tp p mb most (.slice (some ⟨gi, 0, none⟩) ids.length ci) (.slice (some ⟨gq, 0, none⟩) ids.length ck) (lvL l Lm ids).1 (lvL l Lm ids).2)) := fun ho => by
     have := sig_runs hP2 hr.ri hr.rk hB hbw hin.ne hin.seq.kn htx (by omega) (by omega)
     unfold lvL
     rw [if_pos ho]
     exact this
    have CG : Hid (¬ l % 2 = 1 → Calls Tryz.prog 84 #[.pointer (some ⟨pp, 0, none⟩), .agg #[.slice (some ⟨gi, 0, none⟩) ids.length ci, .slice (some ⟨gq, 0, none⟩) ids.length ck], .int .i64 l] wr (LevPost w.heap.size B wr pp tp p mb most (.slice (some ⟨gi, 0, none⟩) ids.length ci) (.slice (some ⟨gq, 0, none⟩) ids.length ck) (lvL l Lm ids).1 (lvL l Lm ids).2)) := fun ho => by
     have := sig_pairs hP2 hr.ri hr.rk hB hbw hin.ne hin.seq.kn htx (by omega) (by omega) l (by omega) (by omega) (by omega)
     unfold lvL
     rw [if_neg ho]
     exact this
    have HSTEP := Lib.hid (fun w2 L2 out T2 iv2 kv2 hP2 hk hi2 hk2 => OfR.step (w2 := w2) (L2 := L2) (out := out) (T2 := T2) (iv2 := iv2) (kv2 := kv2) HR.out hB hP2 hk hi2 hk2)
    clear h5 h6 hin hr hP2 hri hrk hgi hgk hci1 hci2 hck1 hck2 htx hgl hm
    generalize (lvL l Lm ids).1 = L2 at *
    generalize (lvL l Lm ids).2 = out at *
    by_cases ho : l % 2 = 1
    · have hti : (l % 2 == 1) = true := by rw [ho]; rfl
      have C := Lib.hid (CF.out ho)
      clear CF CG ho
      go_wp2_with fail
      refine C.out.mono ?_
      rintro e w2 ⟨T3, iv3, kv3, rfl, hP3, hk3, hi3, hk3', _, _⟩
      obtain ⟨ai3, vi3, rfl⟩ := owns_form hi3
      obtain ⟨ak3, vk3, rfl⟩ := owns_form hk3'
      obtain ⟨hb3, hr3⟩ := HSTEP.out _ _ _ _ _ _ hP3 hk3 hi3 hk3'
      have HR3 := Lib.hid hr3
      clear d0 d1 df ld
      obtain ⟨d0, d1, df, ld⟩ := cells2 hb3
      clear hP3 hk3 hi3 hk3' hb3 hr3 C HSTEP
      go_wp2_with fail
      go_roundg (meas (l + 1) L2 out)
      case measure => have := HME.out; omega
      case rel => exact ⟨l + 1, L2, out, _, _, rfl, rfl, by have := HME.out; omega, HST.out, HR3.out⟩
    · have hti : (l % 2 == 1) = false := beq_eq_false_iff_ne.2 ho
      have C := Lib.hid (CG.out ho)
      clear CF CG ho
      go_wp2_with fail
      refine C.out.mono ?_
      rintro e w2 ⟨T3, iv3, kv3, rfl, hP3, hk3, hi3, hk3', _, _⟩
      obtain ⟨ai3, vi3, rfl⟩ := owns_form hi3
      obtain ⟨ak3, vk3, rfl⟩ := owns_form hk3'
      obtain ⟨hb3, hr3⟩ := HSTEP.out _ _ _ _ _ _ hP3 hk3 hi3 hk3'
      have HR3 := Lib.hid hr3
      clear d0 d1 df ld
      obtain ⟨d0, d1, df, ld⟩ := cells2 hb3
      clear hP3 hk3 hi3 hk3' hb3 hr3 C HSTEP
      go_wp2_with fail
      go_roundg (meas (l + 1) L2 out)
      case measure => have := HME.out; omega
      case rel => exact ⟨l + 1, L2, out, _, _, rfl, rfl, by have := HME.out; omega, HST.out, HR3.out⟩
  · have q3 : decide (1 < (ids.length : Int)) = false := decide_eq_false (by omega)
    have hpos := List.length_pos_iff.2 hin.ne
    have hone : ids.length = 1 := by omega
    obtain ⟨x, rfl⟩ := List.length_eq_one_iff.1 hone
    have hx := hri.2 0 (by simp)
    have lx := hri.1
    have HX : Hid (x = x) := rfl
    clear hin hr hP2 hri hrk hgi hgk hci1 hci2 hck1 hck2 htx hgl hm
    simp only [List.getElem_cons_zero] at hx
    simp only [List.length_singleton] at d0 d1
    go_wp2_with fail
    have hin := HIN.out
    have hkn := hin.seq.kn x (by simp)
    have htx := hin.text
    rw [txts_cons] at htx
    refine bodyPost_ret (v := .tuple #[.int .i64 x, .nilIface]) (by simp [results, Tryz.results66, go_sem]) rfl ⟨Lm, T2, x, rfl, HP2.out, HR.out.kx, hin.gu.le (by omega), hkn.1, hkn.2, ?_, (hin.seq.lv x (by simp)).1, _, hin.ch⟩
    rw [← htx]
    exact (List.append_nil _).symm
end Go.Proofs.YtgldjpldldknoaaGreatDoor
/- A memo in memory: a parser, and the signatures that are known. -/
set_option linter.unusedSimpArgs false
set_option linter.unusedVariables false
namespace Go.Proofs.YtgldjpldldknoaaGreatDoor
open Go.RowKit
def KnOk (L : List Ent) (kn : List (Int × Int)) : Prop := ∀ z ∈ kn, isKnown L z.1 ∧ isKnown L z.2 ∧ txt L z.2 = txt L z.1 ∧ Sig L (txt L z.1) z.2
theorem KnOk.more {L L' : List Ent} {n : Nat} {kn : List (Int × Int)} (h : KnOk L kn) (hD : DOk L) (hg : Grows L L' n) : KnOk L' kn := by
 obtain ⟨M, hM⟩ := hg.ext
 have hd := hg.dok
 rw [hM] at hd ⊢
 intro z hz
 obtain ⟨h1, h2, h3, h4⟩ := h z hz
 refine ⟨known_more h1 M, known_more h2 M, ?_, ?_⟩
 · rw [txt_append hD M h1, txt_append hD M h2, h3]
 · rw [txt_append hD M h1]
   exact h4.more hD M hd
def tyM (t : TypeId) : Bool := tyP t || t == 107 || t == 103
theorem tyM_no {t : TypeId} (h : tyM t = false) : tyP t = false ∧ (tyP t || t == 107) = false ∧ t ≠ 103 := by
 unfold tyM at h
 simp only [Bool.or_eq_false_iff, beq_eq_false_iff_ne, ne_eq] at h
 exact ⟨h.1.1, by simp [h.1.1, h.1.2], h.2⟩
structure Mq (B : Nat) (w : World) (mp kb pp tp p mb : Nat) (most : Int) (L : List Ent) (T : List KRow) (kn : List (Int × Int)) : Prop where
 pq : Pq B w pp tp p mb most L T
 box : w.heap[mp]? = some (Obj.cells #[.pointer (some ⟨pp, 0, none⟩), .map (some kb)] 103 (0, 0))
 kmap : w.heap[kb]? = some (.map (knEntries 0 kn).toArray kn.length)
 ne : kb ≠ mb
 low : B ≤ kb
 ok : KnOk L kn
def Me (B : Nat) (w : World) (mp kb pp tp p mb : Nat) (most : Int) (L : List Ent) : Prop := ∃ T kn, Mq B w mp kb pp tp p mb most L T kn
theorem Mq.fr {S : Nat → Prop} {B : Nat} {w w' : World} {mp kb pp tp p mb : Nat} {most : Int} {L : List Ent} {T : List KRow} {kn : List (Int × Int)} (h : Mq B w mp kb pp tp p mb most L T kn) (k : Fr S w w') (hS : ∀ i, i < w.heap.size → S i → B ≤ i ∧ ∃ cs t f, w.heap[i]? = some (Obj.cells cs t f) ∧ tyM t = false) : Mq B w' mp kb pp tp p mb most L T kn := by
 have k2 : Fr (fun i => i < w.heap.size ∧ S i) w w' := Fr.mono k (fun i h1 h2 => ⟨h2, h1⟩)
 refine ⟨h.pq.keptO ((Ko.refl B w).fr k2 (fun i hi => ?_)), k2.kept h.box (fun hi => ?_), k2.kept h.kmap (fun hi => ?_), h.ne, h.low, h.ok⟩
 · obtain ⟨h1, cs, t, f, h2, h3⟩ := hS i hi.1 hi.2
   exact ⟨h1, cs, t, f, h2, (tyM_no h3).2.1⟩
 · obtain ⟨h1, cs, t, f, h2, h3⟩ := hS _ hi.1 hi.2
   rw [h.box] at h2
   cases h2
   exact (tyM_no h3).2.2 rfl
 · obtain ⟨h1, cs, t, f, h2, h3⟩ := hS _ hi.1 hi.2
   rw [h.kmap] at h2
   cases h2
theorem Me.fr {S : Nat → Prop} {B : Nat} {w w' : World} {mp kb pp tp p mb : Nat} {most : Int} {L : List Ent} (h : Me B w mp kb pp tp p mb most L) (k : Fr S w w') (hS : ∀ i, i < w.heap.size → S i → B ≤ i ∧ ∃ cs t f, w.heap[i]? = some (Obj.cells cs t f) ∧ tyM t = false) : Me B w' mp kb pp tp p mb most L := by
 obtain ⟨T, kn, h⟩ := h
 exact ⟨T, kn, h.fr k hS⟩
theorem Mq.kept0 {B : Nat} {w w' : World} {mp kb pp tp p mb : Nat} {most : Int} {L : List Ent} {T : List KRow} {kn : List (Int × Int)} (h : Mq B w mp kb pp tp p mb most L T kn) (k : Fr0 w w') : Mq B w' mp kb pp tp p mb most L T kn := h.fr k (fun _ _ h => h.elim)
theorem Me.kept0 {B : Nat} {w w' : World} {mp kb pp tp p mb : Nat} {most : Int} {L : List Ent} (h : Me B w mp kb pp tp p mb most L) (k : Fr0 w w') : Me B w' mp kb pp tp p mb most L := h.fr k (fun _ _ h => h.elim)
theorem Me.made {B : Nat} {w w' : World} {mp kb pp tp p mb : Nat} {most : Int} {L L' : List Ent} {k : Nat} (h : Me B w mp kb pp tp p mb most L) (hS : Sto B w' p mb most L') (hK : Kp B mb w w') (hg : Grows L L' k) (hb : L'.length ≤ 1000000) : Me B w' mp kb pp tp p mb most L' := by
 obtain ⟨T, kn, h⟩ := h
 exact ⟨T, kn, (h.pq.made hS hK hg hb).1, hK.cells _ _ _ _ h.box (by decide) (by decide), hK.maps _ _ _ h.kmap h.ne, h.ne, h.low, h.ok.more h.pq.dok hg⟩
theorem Me.pq {B : Nat} {w : World} {mp kb pp tp p mb : Nat} {most : Int} {L : List Ent} (h : Me B w mp kb pp tp p mb most L) : ∃ T, Pq B w pp tp p mb most L T := by
 obtain ⟨T, kn, h⟩ := h
 exact ⟨T, h.pq⟩
theorem Me.room {B : Nat} {w : World} {mp kb pp tp p mb : Nat} {most : Int} {L : List Ent} (h : Me B w mp kb pp tp p mb most L) {n : Nat} (hm : ((L.length + n : Nat) : Int) ≤ most) (hb : L.length + n ≤ 1048576) : Room B w p mb most L n := by
 obtain ⟨T, kn, h⟩ := h
 exact h.pq.room hm hb
theorem Me.st {B : Nat} {w : World} {mp kb pp tp p mb : Nat} {most : Int} {L : List Ent} (h : Me B w mp kb pp tp p mb most L) : Sto B w p mb most L := by
 obtain ⟨T, h⟩ := h.pq; exact h.st
theorem Me.dok {B : Nat} {w : World} {mp kb pp tp p mb : Nat} {most : Int} {L : List Ent} (h : Me B w mp kb pp tp p mb most L) : DOk L := by
 obtain ⟨T, h⟩ := h.pq; exact h.dok
theorem Me.sok {B : Nat} {w : World} {mp kb pp tp p mb : Nat} {most : Int} {L : List Ent} (h : Me B w mp kb pp tp p mb most L) : SOk L := by
 obtain ⟨T, h⟩ := h.pq; exact h.sok
theorem Me.uq {B : Nat} {w : World} {mp kb pp tp p mb : Nat} {most : Int} {L : List Ent} (h : Me B w mp kb pp tp p mb most L) : Uq L := by
 obtain ⟨T, h⟩ := h.pq; exact h.uq
theorem Me.base {B : Nat} {w : World} {mp kb pp tp p mb : Nat} {most : Int} {L : List Ent} (h : Me B w mp kb pp tp p mb most L) : B ≤ w.heap.size := by
 obtain ⟨T, h⟩ := h.pq; exact h.base
theorem Mq.front {B : Nat} {w : World} {mp kb pp tp p mb : Nat} {most : Int} {L : List Ent} {T : List KRow} {kn : List (Int × Int)} (h : Mq B w mp kb pp tp p mb most L T kn) :
    w.cell? ⟨mp, 0, none⟩ = some (.pointer (some ⟨pp, 0, none⟩)) ∧ w.cell? ⟨mp, 1, none⟩ = some (.map (some kb)) ∧ mp < w.heap.size :=
 ⟨by rw [cell_of_block h.box]; rfl, by rw [cell_of_block h.box]; rfl, lt_of_block h.box⟩
def Kk (B mb kb : Nat) (w w' : World) : Prop := Ks (fun k => k = kb) B mb w w'
theorem Kk.ofX {B mb kb : Nat} {w w' : World} (h : Kx B mb w w') : Kk B mb kb w w' := Ks.weak h (fun _ _ h => h.elim)
theorem Kk.ofK {B mb kb : Nat} {w w' : World} (h : Kp B mb w w') : Kk B mb kb w w' := Ks.ofK h
theorem Kk.of0 {B mb kb : Nat} {w w' : World} (h : Fr0 w w') : Kk B mb kb w w' := Ks.of0 h
theorem Kk.refl (B mb kb : Nat) (w : World) : Kk B mb kb w w := Ks.refl _ _ _ _
theorem Kk.trans {B mb kb : Nat} {a b c : World} (h : Kk B mb kb a b) (k : Kk B mb kb b c) : Kk B mb kb a c := Ks.trans h k
theorem Mq.start {B : Nat} {w w' : World} {mp kb pp tp p mb : Nat} {most : Int} {L : List Ent} {T : List KRow} (h : Pq B w pp tp p mb most L T) (hf : Fr0 w w')
    (hb : w'.heap[mp]? = some (Obj.cells #[.pointer (some ⟨pp, 0, none⟩), .map (some kb)] 103 (0, 0))) (hk : w'.heap[kb]? = some (.map #[] 0)) (hn : kb ≠ mb) (hl : B ≤ kb) : Me B w' mp kb pp tp p mb most L :=
 ⟨T, [], h.kept0 hf, hb, hk, hn, hl, fun z hz => by simp at hz⟩
theorem Pq.frM {S : Nat → Prop} {B : Nat} {w w' : World} {pp tp p mb : Nat} {most : Int} {L : List Ent} {T : List KRow} (h : Pq B w pp tp p mb most L T) (k : Fr S w w') (hS : ∀ i, S i → B ≤ i ∧ i ≠ mb ∧ ∃ es n, w.heap[i]? = some (Obj.map es n)) : Pq B w' pp tp p mb most L T := by
 have nc : ∀ {i : Nat} {cs : Array Value} {t : TypeId} {f : Nat × Nat}, w.heap[i]? = some (Obj.cells cs t f) → ¬ S i := fun hb hs => by
  obtain ⟨_, _, es, n, h3⟩ := hS _ hs
  rw [hb] at h3
  cases h3
 have no : ∀ {b0 : Nat} {e : TypeId} {sz n : Nat} {v : Value} {xs : List Value}, w.ownsRow b0 e sz v n xs → ∀ j, v.ownBlock = some j → ¬ S j := fun ho j hj => by
  obtain ⟨cur, hc⟩ := owns_block ho hj
  exact nc hc
 obtain ⟨sv, hSt, q1, q2, q3⟩ := h.st
 obtain ⟨t0, rv, t1, t2⟩ := h.tab
 exact ⟨⟨sv, hSt.kept k (nc hSt.ptr) (fun hs => (hS _ hs).2.1 rfl) (no hSt.own), q1, q2, q3⟩, k.kept h.par (nc h.par), h.new, ⟨t0, rv, k.kept t1 (nc t1), k.owns t2 (no t2)⟩, h.ok, h.tl, h.sok, h.dok, h.uq, Nat.le_trans h.base k.size, h.deb.low (fun i h1 h2 => k.block i h2 (fun hs => by have := (hS i hs).1; omega)), h.big⟩
theorem Mq.put {B : Nat} {w : World} {mp kb pp tp p mb : Nat} {most : Int} {L : List Ent} {T : List KRow} {kn : List (Int × Int)} (h : Mq B w mp kb pp tp p mb most L T kn) {x y : Int} (h1 : isKnown L x) (h2 : isKnown L y) (h3 : txt L y = txt L x) (h4 : Sig L (txt L x) y) :
    Mq B (setB w kb (.map (knEntries 0 (kn ++ [(x, y)])).toArray (kn ++ [(x, y)]).length)) mp kb pp tp p mb most L T (kn ++ [(x, y)]) ∧ Kk B mb kb w (setB w kb (.map (knEntries 0 (kn ++ [(x, y)])).toArray (kn ++ [(x, y)]).length)) := by
 have F : Fr (fun i => i = kb) w (setB w kb (.map (knEntries 0 (kn ++ [(x, y)])).toArray (kn ++ [(x, y)]).length)) := Fr.setB (Fr.refl _ w) kb _ (fun _ => rfl)
 refine ⟨⟨h.pq.frM F (fun i hi => by subst hi; exact ⟨h.low, h.ne, _, _, h.kmap⟩), F.kept h.box (fun e => ?_), setB_same (lt_of_block h.kmap), h.ne, h.low, fun z hz => ?_⟩, Ks.fr (Ks.refl _ _ _ _) F (fun _ _ e => e)⟩
 · have := h.box
   rw [e, h.kmap] at this
   cases this
 · rcases List.mem_append.1 hz with hz | hz
   · exact h.ok z hz
   · rw [List.mem_singleton.1 hz]
     exact ⟨h1, h2, h3, h4⟩
end Go.Proofs.YtgldjpldldknoaaGreatDoor

/- The walk of Parser.Of. -/
import Derived.Test.YtodmpcnpedpheaaGreatDoorRSw7
set_option linter.unusedSimpArgs false
set_option linter.unusedVariables false
namespace Go.Proofs.YtodmpcnpedpheaaGreatDoor
open Go.RowKit

/-- A text is being parsed: the symbols ahead of level l. -/
structure OfI (L : List Ent) (bs : List Int) (l : Int) (Lm : List Ent) (ids : List Int) : Prop where
  gu : Gu L Lm (2 * bs.length - ids.length)
  seq : SeqI Lm l ids
  text : txts Lm ids = bs
  ne : ids ≠ []
  len : ids.length ≤ bs.length
  l1 : 1 ≤ l

theorem OfI.start {L : List Ent} {bs : List Int} (hS : SOk L) (hD : DOk L) (hU : Uq L) (hb : ∀ b ∈ bs, 0 ≤ b ∧ b < 256) (h0 : bs ≠ []) : OfI L bs 1 (letF L bs).1 (letF L bs).2 := by
  obtain ⟨h1, h2, h3, h4⟩ := letF_ok bs L hS hD hU hb
  have := List.length_pos_iff.2 h0
  refine ⟨h1.le (by omega), letF_seq hS hD hU hb, h3, fun e => ?_, by omega, by omega⟩
  rw [e] at h4
  simp at h4
  omega

theorem OfI.step {L : List Ent} {bs : List Int} {l : Int} {Lm : List Ent} {ids : List Int} (h : OfI L bs l Lm ids) (hn : bs.length ≤ 65536) (h2 : 1 < ids.length) :
    OfI L bs (l + 1) (lvL l Lm ids).1 (lvL l Lm ids).2 ∧ meas (l + 1) (lvL l Lm ids).1 (lvL l Lm ids).2 < meas l Lm ids := by
  have ht : (txts Lm ids).length ≤ 1152921504606846976 := by rw [h.text]; omega
  obtain ⟨h1, h3⟩ := lvL_ok h.l1 h.gu.gr.sok h.gu.gr.dok h.gu.uq h.seq ht
  have hl := h1.len
  have hlen := h.len
  have hl1 := h.l1
  refine ⟨⟨h.gu.trans h1.gu (by omega), h1.seq, by rw [h1.text, h.text], h3 h.ne, by omega, by omega⟩, meas_lt h.l1 h.gu.gr.sok h.gu.gr.dok h.gu.uq h.seq ht h2⟩

/-- The parser and the sequence in its box. -/
structure OfR (B : Nat) (w wr : World) (pp tp p mb : Nat) (most : Int) (Lm : List Ent) (ids : List Int) (rb : Nat) (iv kv : Value) : Prop where
  ex : ∃ T, Pq B wr pp tp p mb most Lm T
  kx : Kx B mb w wr
  box : wr.heap[rb]? = some (Obj.cells #[iv, kv] 113 (0, 0))
  ri : wr.ownsRow w.heap.size 38 1 iv ids.length (ids.map fun x => Value.int .i64 x)
  rk : wr.ownsRow w.heap.size 45 1 kv ids.length ((ids.map (kkey Lm)).map fun x => Value.int .u64 x)
  rb : w.heap.size ≤ rb

theorem two_no {b1 b2 : Nat} {w : World} {iv kv : Value} {ids ys : List Int} {n m : Nat} {f1 f2 : Int → Value} (ri : w.ownsRow b1 38 1 iv n (ids.map f1)) (rk : w.ownsRow b2 45 1 kv m (ys.map f2)) {b : Nat} {cs : Array Value} {t : TypeId} {f : Nat × Nat} (hb : w.heap[b]? = some (Obj.cells cs t f)) (h2 : t ≠ 38) (h3 : t ≠ 45) : ¬ twoS iv kv b := by
  rintro (e | e)
  · obtain ⟨cur, hc⟩ := owns_block ri e
    rw [hb] at hc
    cases hc
    exact h2 rfl
  · obtain ⟨cur, hc⟩ := owns_block rk e
    rw [hb] at hc
    cases hc
    exact h3 rfl

theorem OfR.step {B : Nat} {w wr w2 : World} {pp tp p mb : Nat} {most : Int} {Lm L2 : List Ent} {ids out : List Int} {rb : Nat} {iv kv iv2 kv2 : Value} {T2 : List KRow} (h : OfR B w wr pp tp p mb most Lm ids rb iv kv) (hB : B ≤ w.heap.size) (hP2 : Pq B w2 pp tp p mb most L2 T2) (hk : Ks (twoS iv kv) B mb wr w2)
    (hi2 : w2.ownsRow w.heap.size 38 1 iv2 out.length (out.map fun x => Value.int .i64 x)) (hk2 : w2.ownsRow w.heap.size 45 1 kv2 out.length ((out.map (kkey L2)).map fun x => Value.int .u64 x)) :
    w2.heap[rb]? = some (Obj.cells #[iv, kv] 113 (0, 0)) ∧ OfR B w ((w2.setCell ⟨rb, 0, none⟩ iv2).setCell ⟨rb, 1, none⟩ kv2) pp tp p mb most L2 out rb iv2 kv2 := by
  have hrb := h.rb
  have b2 := hk.cells _ _ _ _ h.box (by decide) (two_no h.ri h.rk h.box (by decide) (by decide))
  have hf : Fr (fun k => k = rb) w2 ((w2.setCell ⟨rb, 0, none⟩ iv2).setCell ⟨rb, 1, none⟩ kv2) := fr_set1 (fr_set1 (Fr.refl _ w2) 0 _) 1 _
  refine ⟨b2, ⟨T2, hP2.keptO ((Ko.refl B w2).fr hf (fun i hi => by subst hi; exact ⟨by omega, _, _, _, b2, by decide⟩))⟩, ?_, put2 b2 _ _, hf.owns hi2 (fun z hz e => ?_), hf.owns hk2 (fun z hz e => ?_), hrb⟩
  · refine Ks.fr (Ks.next h.kx hk (fun i h1 h2 => ?_)) hf (fun i h1 h2 => by omega)
    rcases h2 with e | e
    · rcases h.ri.2 with ⟨e2, _⟩ | ⟨g, cap, cur, e2, hb, _⟩
      · rw [e2] at e; cases e
      · rw [e2] at e; have e3 : some g = some i := e; have := Option.some.inj e3; omega
    · rcases h.rk.2 with ⟨e2, _⟩ | ⟨g, cap, cur, e2, hb, _⟩
      · rw [e2] at e; cases e
      · rw [e2] at e; have e3 : some g = some i := e; have := Option.some.inj e3; omega
  · obtain ⟨cur, hc⟩ := owns_block hi2 hz
    rw [e] at hc
    exact ne_of_types hc b2 (by decide) rfl
  · obtain ⟨cur, hc⟩ := owns_block hk2 hz
    rw [e] at hc
    exact ne_of_types hc b2 (by decide) rfl

/-- What Of leaves. -/
def OfPost (B : Nat) (w : World) (pp tp p mb : Nat) (most : Int) (L : List Ent) (bs : List Int) (e : Ending) (w' : World) : Prop :=
  ∃ L' T' id, e = .returned (.tuple #[.int .i64 id, .nilIface]) ∧ Pq B w' pp tp p mb most L' T' ∧ Kx B mb w w' ∧ Gu L L' (2 * bs.length) ∧ isKnown L' id ∧ id ≠ 0 ∧ txt L' id = bs ∧ 0 ≤ klev L' id

set_option maxRecDepth 100000 in
set_option maxHeartbeats 4000000 in
theorem sig_Of {B : Nat} {w : World} {pp tp p mb : Nat} {most : Int} {L : List Ent} {T : List KRow} {bb cap : Nat} {bs : List Int} (h : Pq B w pp tp p mb most L T) (hI : RowC w bb .u8 bs) (hbb : ∃ cs t f, w.heap[bb]? = some (Obj.cells cs t f) ∧ tyP t = false) (hb : ∀ b ∈ bs, 0 ≤ b ∧ b < 256) (h0 : bs ≠ []) (hn : bs.length ≤ 65536) (hm : ((L.length + 2 * bs.length : Nat) : Int) ≤ most) (hL : L.length + 2 * bs.length ≤ 500000) :
    Calls Tryz.prog 23 #[.pointer (some ⟨pp, 0, none⟩), .slice (some ⟨bb, 0, none⟩) bs.length cap] w (OfPost B w pp tp p mb most L bs) := by
  obtain ⟨c0, c1, lp⟩ := h.front
  have CL := Lib.hid (sig_letters (cap := cap) h hI hbb hb h0 (by omega) (by omega))
  have HO := Lib.hid (OfI.start h.sok h.dok h.uq hb h0)
  have hB := h.base
  have hn0 : 0 < bs.length := List.length_pos_iff.2 h0
  have q1 : decide (65536 < (bs.length : Int)) = false := decide_eq_false (by omega)
  have q2 : ((bs.length : Int) == 0) = false := by rw [beq_eq_false_iff_ne]; omega
  clear h hI hbb hb h0
  go_enter Tryz.func23, Tryz.ntmps23
  go_wp2_with fail
  refine CL.out.mono ?_
  rintro e w1 ⟨T1, iv, kv, rfl, hp1, hx1, hi1, hk1⟩
  obtain ⟨ai, vi, rfl⟩ := owns_form hi1
  obtain ⟨ak, vk, rfl⟩ := owns_form hk1
  have HP1 := Lib.hid hp1
  have HX1 := Lib.hid hx1
  have HI1 := Lib.hid hi1
  have HK1 := Lib.hid hk1
  have hs1 := hx1.size
  clear hp1 hx1 hi1 hk1 c0 c1 lp CL
  generalize (letF L bs).1 = L1 at *
  generalize (letF L bs).2 = ids1 at *
  have b0 := alloc_at w1 (.cells #[.slice none 0 0, .slice none 0 0] 113 (0, 0)) w1.heap.size rfl
  obtain ⟨d0, d1, df, ld⟩ := cells2 b0
  have F0 := (Fr0.refl w1).alloc (.cells #[.slice ai ids1.length vi, .slice ak ids1.length vk] 113 (0, 0))
  have HR : Hid (OfR B w (w1.alloc (.cells #[.slice ai ids1.length vi, .slice ak ids1.length vk] 113 (0, 0))) pp tp p mb most L1 ids1 w1.heap.size (.slice ai ids1.length vi) (.slice ak ids1.length vk)) :=
    ⟨⟨T1, HP1.out.kept0 F0⟩, HX1.out.trans (Ks.of0 F0), alloc_at w1 _ _ rfl, F0.owns HI1.out, F0.owns HK1.out, hs1⟩
  clear b0 F0 HI1 HK1 HX1 HP1
  go_wp2_with fail
  clear d0 d1 df ld
  go_loopg [8] (meas 1 L1 ids1) (fun gk lv wr => ∃ (l : Int) (Lm : List Ent) (ids : List Int) (iv kv : Value), lv = .int .i64 l ∧ gk = meas l Lm ids ∧ l + gk ≤ 70000000 ∧ OfI L bs l Lm ids ∧ OfR B w wr pp tp p mb most Lm ids w1.heap.size iv kv)
  case atStart =>
    have h5 := HO.out.len
    have := (meas_le (l := 1) (by omega) HO.out.gu.gr.dok HO.out.seq.kn).2
    exact ⟨1, L1, ids1, _, _, rfl, rfl, by omega, HO.out, HR.out⟩
  case round =>
    clear HO HR
    obtain ⟨l, Lm, ids, iv2, kv2, rfl, hgk, hlg, hin, hr⟩ := hrel
    obtain ⟨gi, ci, rfl, hgi, hri, hci1, hci2⟩ := rowC_of_own hr.ri hin.ne
    obtain ⟨gq, ck, hkv, hgk, hrk, hck1, hck2⟩ := rowC_of_own (xs := ids.map (kkey Lm)) (by rw [List.length_map]; exact hr.rk) (by simpa using hin.ne)
    rw [List.length_map] at hkv
    subst hkv
    obtain ⟨d0, d1, df, ld⟩ := cells2 hr.box
    obtain ⟨T2, hP2⟩ := hr.ex
    have hl1 := hin.l1
    have hlen := hin.len
    have hgl := hin.gu.gr.len
    have htx : (txts Lm ids).length ≤ 1152921504606846976 := by rw [hin.text]; omega
    have hbw := hr.kx.size
    have hrz := hr.rb
    have HIN := Lib.hid hin
    have HR := Lib.hid hr
    have HP2 := Lib.hid hP2
    have HRI := Lib.hid hri
    by_cases hlt : 1 < ids.length
    · have q3 : decide (1 < (ids.length : Int)) = true := decide_eq_true (by omega)
      obtain ⟨h5, h6⟩ := HIN.out.step hn hlt
      have h56 : 0 < meas l Lm ids := by omega
      have q6 : IntKind.i64.wrap (l + 1) = l + 1 := wrapI (by omega) (by omega)
      have HST := Lib.hid h5
      have HME := Lib.hid h6
      have CF : Hid (l % 2 = 1 → Calls Tryz.prog 41 #[.pointer (some ⟨pp, 0, none⟩), .agg #[.slice (some ⟨gi, 0, none⟩) ids.length ci, .slice (some ⟨gq, 0, none⟩) ids.length ck]] wr (LevPost w.heap.size B wr pp tp p mb most (.slice (some ⟨gi, 0, none⟩) ids.length ci) (.slice (some ⟨gq, 0, none⟩) ids.length ck) (lvL l Lm ids).1 (lvL l Lm ids).2)) := fun ho => by
        have := sig_runs hP2 hr.ri hr.rk hB hbw hin.ne hin.seq.kn htx (by omega) (by omega)
        unfold lvL
        rw [if_pos ho]
        exact this
      have CG : Hid (¬ l % 2 = 1 → Calls Tryz.prog 42 #[.pointer (some ⟨pp, 0, none⟩), .agg #[.slice (some ⟨gi, 0, none⟩) ids.length ci, .slice (some ⟨gq, 0, none⟩) ids.length ck], .int .i64 l] wr (LevPost w.heap.size B wr pp tp p mb most (.slice (some ⟨gi, 0, none⟩) ids.length ci) (.slice (some ⟨gq, 0, none⟩) ids.length ck) (lvL l Lm ids).1 (lvL l Lm ids).2)) := fun ho => by
        have := sig_pairs hP2 hr.ri hr.rk hB hbw hin.ne hin.seq.kn htx (by omega) (by omega) l (by omega) (by omega) (by omega)
        unfold lvL
        rw [if_neg ho]
        exact this
      have HSTEP := Lib.hid (fun w2 L2 out T2 iv2 kv2 hP2 hk hi2 hk2 => OfR.step (w2 := w2) (L2 := L2) (out := out) (T2 := T2) (iv2 := iv2) (kv2 := kv2) HR.out hB hP2 hk hi2 hk2)
      clear h5 h6 hin hr hP2 hri hrk hgi hgk hci1 hci2 hck1 hck2 htx hgl hm
      generalize (lvL l Lm ids).1 = L2 at *
      generalize (lvL l Lm ids).2 = out at *
      by_cases ho : l % 2 = 1
      · have hti : (l % 2 == 1) = true := by rw [ho]; rfl
        have C := Lib.hid (CF.out ho)
        clear CF CG ho
        go_wp2_with fail
        refine C.out.mono ?_
        rintro e w2 ⟨T3, iv3, kv3, rfl, hP3, hk3, hi3, hk3', _, _⟩
        obtain ⟨ai3, vi3, rfl⟩ := owns_form hi3
        obtain ⟨ak3, vk3, rfl⟩ := owns_form hk3'
        obtain ⟨hb3, hr3⟩ := HSTEP.out _ _ _ _ _ _ hP3 hk3 hi3 hk3'
        have HR3 := Lib.hid hr3
        clear d0 d1 df ld
        obtain ⟨d0, d1, df, ld⟩ := cells2 hb3
        clear hP3 hk3 hi3 hk3' hb3 hr3 C HSTEP
        go_wp2_with fail
        go_roundg (meas (l + 1) L2 out)
        case measure => have := HME.out; omega
        case rel => exact ⟨l + 1, L2, out, _, _, rfl, rfl, by have := HME.out; omega, HST.out, HR3.out⟩
      · have hti : (l % 2 == 1) = false := beq_eq_false_iff_ne.2 ho
        have C := Lib.hid (CG.out ho)
        clear CF CG ho
        go_wp2_with fail
        refine C.out.mono ?_
        rintro e w2 ⟨T3, iv3, kv3, rfl, hP3, hk3, hi3, hk3', _, _⟩
        obtain ⟨ai3, vi3, rfl⟩ := owns_form hi3
        obtain ⟨ak3, vk3, rfl⟩ := owns_form hk3'
        obtain ⟨hb3, hr3⟩ := HSTEP.out _ _ _ _ _ _ hP3 hk3 hi3 hk3'
        have HR3 := Lib.hid hr3
        clear d0 d1 df ld
        obtain ⟨d0, d1, df, ld⟩ := cells2 hb3
        clear hP3 hk3 hi3 hk3' hb3 hr3 C HSTEP
        go_wp2_with fail
        go_roundg (meas (l + 1) L2 out)
        case measure => have := HME.out; omega
        case rel => exact ⟨l + 1, L2, out, _, _, rfl, rfl, by have := HME.out; omega, HST.out, HR3.out⟩
    · have q3 : decide (1 < (ids.length : Int)) = false := decide_eq_false (by omega)
      have hpos := List.length_pos_iff.2 hin.ne
      have hone : ids.length = 1 := by omega
      obtain ⟨x, rfl⟩ := List.length_eq_one_iff.1 hone
      have hx := hri.2 0 (by simp)
      have lx := hri.1
      have HX : Hid (x = x) := rfl
      clear hin hr hP2 hri hrk hgi hgk hci1 hci2 hck1 hck2 htx hgl hm
      simp only [List.getElem_cons_zero] at hx
      simp only [List.length_singleton] at d0 d1
      go_wp2_with fail
      have hin := HIN.out
      have hkn := hin.seq.kn x (by simp)
      have htx := hin.text
      rw [txts_cons] at htx
      refine bodyPost_ret (v := .tuple #[.int .i64 x, .nilIface]) (by simp [results, Tryz.results23, go_sem]) rfl ⟨Lm, T2, x, rfl, HP2.out, HR.out.kx, hin.gu.le (by omega), hkn.1, hkn.2, ?_, (hin.seq.lv x (by simp)).1⟩
      rw [← htx]
      exact (List.append_nil _).symm

/-- No letters. -/
theorem sig_Of_nil {B : Nat} {w : World} {pp tp p mb : Nat} {most : Int} {L : List Ent} {T : List KRow} {a : Option Addr} {c : Nat} (h : Pq B w pp tp p mb most L T) :
    Calls Tryz.prog 23 #[.pointer (some ⟨pp, 0, none⟩), .slice a 0 c] w (fun e w' => e = .returned (.tuple #[.int .i64 0, .nilIface]) ∧ w' = w) := by
  obtain ⟨c0, c1, lp⟩ := h.front
  clear h
  go_enter Tryz.func23, Tryz.ntmps23
  go_wp2_with fail
  exact bodyPost_ret (v := .tuple #[.int .i64 0, .nilIface]) (by simp [results, Tryz.results23, go_sem]) rfl ⟨rfl, rfl⟩

end Go.Proofs.YtodmpcnpedpheaaGreatDoor

/- The walk of Parser.Of. -/
import Derived.Test.YtodmpcnpedpheaaDoorQSw7
import Derived.Test.YtodmpcnpedpheaaDoorQDf1
import Derived.WalkSmall
set_option linter.unusedSimpArgs false
set_option linter.unusedVariables false
namespace Go.Proofs.YtodmpcnpedpheaaDoor
open Go.RowKit

/-- A text is being parsed: the symbols ahead of level l. -/
structure OfI (L : List Ent) (bs : List Int) (l : Int) (Lm : List Ent) (ids : List Int) : Prop where
  gu : Gu L Lm (2 * bs.length - ids.length)
  seq : SeqI Lm l ids
  text : txts Lm ids = bs
  ne : ids ≠ []
  len : ids.length ≤ bs.length
  l1 : 1 ≤ l

theorem OfI.start {L : List Ent} {bs : List Int} (hS : SOk L) (hD : DOk L) (hU : Uq L) (hb : ∀ b ∈ bs, 0 ≤ b ∧ b < 256) (h0 : bs ≠ []) : OfI L bs 1 (letF L bs).1 (letF L bs).2 := by
  obtain ⟨h1, h2, h3, h4⟩ := letF_ok bs L hS hD hU hb
  have := List.length_pos_iff.2 h0
  refine ⟨h1.le (by omega), letF_seq hS hD hU hb, h3, fun e => ?_, by omega, by omega⟩
  rw [e] at h4
  simp at h4
  omega

theorem OfI.step {L : List Ent} {bs : List Int} {l : Int} {Lm : List Ent} {ids : List Int} (h : OfI L bs l Lm ids) (hn : bs.length ≤ 65536) (h2 : 1 < ids.length) :
    OfI L bs (l + 1) (lvL l Lm ids).1 (lvL l Lm ids).2 ∧ meas (l + 1) (lvL l Lm ids).1 (lvL l Lm ids).2 < meas l Lm ids := by
  have ht : (txts Lm ids).length ≤ 1152921504606846976 := by rw [h.text]; omega
  obtain ⟨h1, h3⟩ := lvL_ok h.l1 h.gu.gr.sok h.gu.gr.dok h.gu.uq h.seq ht
  have hl := h1.len
  have hlen := h.len
  have hl1 := h.l1
  refine ⟨⟨h.gu.trans h1.gu (by omega), h1.seq, by rw [h1.text, h.text], h3 h.ne, by omega, by omega⟩, meas_lt h.l1 h.gu.gr.sok h.gu.gr.dok h.gu.uq h.seq ht h2⟩

/-- The parser and the sequence in its box. -/
structure OfR (B : Nat) (w wr : World) (pp tp p mb : Nat) (most : Int) (Lm : List Ent) (ids : List Int) (rb : Nat) (iv kv : Value) : Prop where
  ex : ∃ T, Pq B wr pp tp p mb most Lm T
  kx : Kx B mb w wr
  box : wr.heap[rb]? = some (Obj.cells #[iv, kv] 73 (0, 0))
  ri : wr.ownsRow w.heap.size 26 1 iv ids.length (ids.map fun x => Value.int .i64 x)
  rk : wr.ownsRow w.heap.size 79 1 kv ids.length ((ids.map (kkey Lm)).map fun x => Value.int .u64 x)
  rb : w.heap.size ≤ rb

theorem two_no {b1 b2 : Nat} {w : World} {iv kv : Value} {ids ys : List Int} {n m : Nat} {f1 f2 : Int → Value} (ri : w.ownsRow b1 26 1 iv n (ids.map f1)) (rk : w.ownsRow b2 79 1 kv m (ys.map f2)) {b : Nat} {cs : Array Value} {t : TypeId} {f : Nat × Nat} (hb : w.heap[b]? = some (Obj.cells cs t f)) (h2 : t ≠ 26) (h3 : t ≠ 79) : ¬ twoS iv kv b := by
  rintro (e | e)
  · obtain ⟨cur, hc⟩ := owns_block ri e
    rw [hb] at hc
    cases hc
    exact h2 rfl
  · obtain ⟨cur, hc⟩ := owns_block rk e
    rw [hb] at hc
    cases hc
    exact h3 rfl

theorem OfR.step {B : Nat} {w wr w2 : World} {pp tp p mb : Nat} {most : Int} {Lm L2 : List Ent} {ids out : List Int} {rb : Nat} {iv kv iv2 kv2 : Value} {T2 : List KRow} (h : OfR B w wr pp tp p mb most Lm ids rb iv kv) (hB : B ≤ w.heap.size) (hP2 : Pq B w2 pp tp p mb most L2 T2) (hk : Ks (twoS iv kv) B mb wr w2)
    (hi2 : w2.ownsRow w.heap.size 26 1 iv2 out.length (out.map fun x => Value.int .i64 x)) (hk2 : w2.ownsRow w.heap.size 79 1 kv2 out.length ((out.map (kkey L2)).map fun x => Value.int .u64 x)) :
    w2.heap[rb]? = some (Obj.cells #[iv, kv] 73 (0, 0)) ∧ OfR B w ((w2.setCell ⟨rb, 0, none⟩ iv2).setCell ⟨rb, 1, none⟩ kv2) pp tp p mb most L2 out rb iv2 kv2 := by
  have hrb := h.rb
  have b2 := hk.cells _ _ _ _ h.box (by decide) (two_no h.ri h.rk h.box (by decide) (by decide))
  have hf : Fr (fun k => k = rb) w2 ((w2.setCell ⟨rb, 0, none⟩ iv2).setCell ⟨rb, 1, none⟩ kv2) := fr_set1 (fr_set1 (Fr.refl _ w2) 0 _) 1 _
  refine ⟨b2, ⟨T2, hP2.keptO ((Ko.refl B w2).fr hf (fun i hi => by subst hi; exact ⟨by omega, _, _, _, b2, by decide⟩))⟩, ?_, put2 b2 _ _, hf.owns hi2 (fun z hz e => ?_), hf.owns hk2 (fun z hz e => ?_), hrb⟩
  · refine Ks.fr (Ks.next h.kx hk (fun i h1 h2 => ?_)) hf (fun i h1 h2 => by omega)
    rcases h2 with e | e
    · rcases h.ri.2 with ⟨e2, _⟩ | ⟨g, cap, cur, e2, hb, _⟩
      · rw [e2] at e; cases e
      · rw [e2] at e; have e3 : some g = some i := e; have := Option.some.inj e3; omega
    · rcases h.rk.2 with ⟨e2, _⟩ | ⟨g, cap, cur, e2, hb, _⟩
      · rw [e2] at e; cases e
      · rw [e2] at e; have e3 : some g = some i := e; have := Option.some.inj e3; omega
  · obtain ⟨cur, hc⟩ := owns_block hi2 hz
    rw [e] at hc
    exact ne_of_types hc b2 (by decide) rfl
  · obtain ⟨cur, hc⟩ := owns_block hk2 hz
    rw [e] at hc
    exact ne_of_types hc b2 (by decide) rfl

/-- What Of leaves. -/
def OfPost (B : Nat) (w : World) (pp tp p mb : Nat) (most : Int) (L : List Ent) (bs : List Int) (e : Ending) (w' : World) : Prop :=
  ∃ L' T' id, e = .returned (.tuple #[.int .i64 id, .nilIface]) ∧ Pq B w' pp tp p mb most L' T' ∧ Kx B mb w w' ∧ Gu L L' (2 * bs.length) ∧ isKnown L' id ∧ id ≠ 0 ∧ txt L' id = bs ∧ 0 ≤ klev L' id

theorem tmod_one {l : Int} (h : 1 ≤ l) : (l.tmod 2 == 1) = decide (l % 2 = 1) := by
  rw [Int.tmod_eq_emod_of_nonneg (by omega)]
  rfl

set_option maxRecDepth 100000 in
set_option maxHeartbeats 4000000 in
theorem sig_Of {B : Nat} {w : World} {pp tp p mb : Nat} {most : Int} {L : List Ent} {T : List KRow} {bb cap : Nat} {bs : List Int} (h : Pq B w pp tp p mb most L T) (hI : RowC w bb .u8 bs) (hbb : ∃ cs t f, w.heap[bb]? = some (Obj.cells cs t f) ∧ tyP t = false) (hb : ∀ b ∈ bs, 0 ≤ b ∧ b < 256) (h0 : bs ≠ []) (hn : bs.length ≤ 65536) (hm : ((L.length + 2 * bs.length : Nat) : Int) ≤ most) (hL : L.length + 2 * bs.length ≤ 500000) :
    Calls Tryd.prog 16 #[.pointer (some ⟨pp, 0, none⟩), .slice (some ⟨bb, 0, none⟩) bs.length cap] w (OfPost B w pp tp p mb most L bs) := by
  obtain ⟨c0, c1, lp⟩ := h.front
  have CL := Lib.hid (sig_letters (cap := cap) h hI hbb hb h0 (by omega) (by omega))
  have HO := Lib.hid (OfI.start h.sok h.dok h.uq hb h0)
  have hB := h.base
  have hn0 : 0 < bs.length := List.length_pos_iff.2 h0
  have q1 : decide (65536 < (bs.length : Int)) = false := decide_eq_false (by omega)
  have q2 : ((bs.length : Int) == 0) = false := by rw [beq_eq_false_iff_ne]; omega
  clear h hI hbb hb h0
  go_enter Tryd.func16, Tryd.ntmps16
  go_wp2_with fail
  refine CL.out.mono ?_
  rintro e w1 ⟨T1, iv, kv, rfl, hp1, hx1, hi1, hk1⟩
  obtain ⟨ai, vi, rfl⟩ := owns_form hi1
  obtain ⟨ak, vk, rfl⟩ := owns_form hk1
  have HP1 := Lib.hid hp1
  have HX1 := Lib.hid hx1
  have HI1 := Lib.hid hi1
  have HK1 := Lib.hid hk1
  have hs1 := hx1.size
  clear hp1 hx1 hi1 hk1 c0 c1 lp CL
  generalize (letF L bs).1 = L1 at *
  generalize (letF L bs).2 = ids1 at *
  have b0 := alloc_at w1 (.cells #[.slice none 0 0, .slice none 0 0] 73 (0, 0)) w1.heap.size rfl
  obtain ⟨d0, d1, df, ld⟩ := cells2 b0
  have F0 := (Fr0.refl w1).alloc (.cells #[.slice ai ids1.length vi, .slice ak ids1.length vk] 73 (0, 0))
  have HR : Hid (OfR B w (w1.alloc (.cells #[.slice ai ids1.length vi, .slice ak ids1.length vk] 73 (0, 0))) pp tp p mb most L1 ids1 w1.heap.size (.slice ai ids1.length vi) (.slice ak ids1.length vk)) :=
    ⟨⟨T1, HP1.out.kept0 F0⟩, HX1.out.trans (Ks.of0 F0), alloc_at w1 _ _ rfl, F0.owns HI1.out, F0.owns HK1.out, hs1⟩
  clear b0 F0 HI1 HK1 HX1 HP1
  go_wp2_with fail
  clear d0 d1 df ld
  go_loopg [8] (meas 1 L1 ids1) (fun gk lv wr => ∃ (l : Int) (Lm : List Ent) (ids : List Int) (iv kv : Value), lv = .int .i64 l ∧ gk = meas l Lm ids ∧ l + gk ≤ 70000000 ∧ OfI L bs l Lm ids ∧ OfR B w wr pp tp p mb most Lm ids w1.heap.size iv kv)
  case atStart =>
    have h5 := HO.out.len
    have := (meas_le (l := 1) (by omega) HO.out.gu.gr.dok HO.out.seq.kn).2
    exact ⟨1, L1, ids1, _, _, rfl, rfl, by omega, HO.out, HR.out⟩
  case round =>
    clear HO HR
    obtain ⟨l, Lm, ids, iv2, kv2, rfl, hgk, hlg, hin, hr⟩ := hrel
    obtain ⟨gi, ci, rfl, hgi, hri, hci1, hci2⟩ := rowC_of_own hr.ri hin.ne
    obtain ⟨gq, ck, hkv, hgk, hrk, hck1, hck2⟩ := rowC_of_own (xs := ids.map (kkey Lm)) (by rw [List.length_map]; exact hr.rk) (by simpa using hin.ne)
    rw [List.length_map] at hkv
    subst hkv
    obtain ⟨d0, d1, df, ld⟩ := cells2 hr.box
    obtain ⟨T2, hP2⟩ := hr.ex
    have hl1 := hin.l1
    have hlen := hin.len
    have hgl := hin.gu.gr.len
    have htx : (txts Lm ids).length ≤ 1152921504606846976 := by rw [hin.text]; omega
    have hbw := hr.kx.size
    have hrz := hr.rb
    have HIN := Lib.hid hin
    have HR := Lib.hid hr
    have HP2 := Lib.hid hP2
    have HRI := Lib.hid hri
    by_cases hlt : 1 < ids.length
    · have q3 : decide (1 < (ids.length : Int)) = true := decide_eq_true (by omega)
      obtain ⟨h5, h6⟩ := HIN.out.step hn hlt
      have h56 : 0 < meas l Lm ids := by omega
      have q6 : IntKind.i64.wrap (l + 1) = l + 1 := wrapI (by omega) (by omega)
      have HST := Lib.hid h5
      have HME := Lib.hid h6
      have CF : Hid (l % 2 = 1 → Calls Tryd.prog 25 #[.pointer (some ⟨pp, 0, none⟩), .agg #[.slice (some ⟨gi, 0, none⟩) ids.length ci, .slice (some ⟨gq, 0, none⟩) ids.length ck]] wr (LevPost w.heap.size B wr pp tp p mb most (.slice (some ⟨gi, 0, none⟩) ids.length ci) (.slice (some ⟨gq, 0, none⟩) ids.length ck) (lvL l Lm ids).1 (lvL l Lm ids).2)) := fun ho => by
        have := sig_runs hP2 hr.ri hr.rk hB hbw hin.ne hin.seq.kn htx (by omega) (by omega)
        unfold lvL
        rw [if_pos ho]
        exact this
      have CG : Hid (¬ l % 2 = 1 → Calls Tryd.prog 26 #[.pointer (some ⟨pp, 0, none⟩), .agg #[.slice (some ⟨gi, 0, none⟩) ids.length ci, .slice (some ⟨gq, 0, none⟩) ids.length ck], .int .i64 l] wr (LevPost w.heap.size B wr pp tp p mb most (.slice (some ⟨gi, 0, none⟩) ids.length ci) (.slice (some ⟨gq, 0, none⟩) ids.length ck) (lvL l Lm ids).1 (lvL l Lm ids).2)) := fun ho => by
        have := sig_pairs hP2 hr.ri hr.rk hB hbw hin.ne hin.seq.kn htx (by omega) (by omega) l (by omega) (by omega) (by omega)
        unfold lvL
        rw [if_neg ho]
        exact this
      have HSTEP := Lib.hid (fun w2 L2 out T2 iv2 kv2 hP2 hk hi2 hk2 => OfR.step (w2 := w2) (L2 := L2) (out := out) (T2 := T2) (iv2 := iv2) (kv2 := kv2) HR.out hB hP2 hk hi2 hk2)
      clear h5 h6 hin hr hP2 hri hrk hgi hgk hci1 hci2 hck1 hck2 htx hgl hm
      generalize (lvL l Lm ids).1 = L2 at *
      generalize (lvL l Lm ids).2 = out at *
      by_cases ho : l % 2 = 1
      · have hti : (l % 2 == 1) = true := by rw [ho]; rfl
        have C := Lib.hid (CF.out ho)
        clear CF CG ho
        go_wp2_with fail
        refine C.out.mono ?_
        rintro e w2 ⟨T3, iv3, kv3, rfl, hP3, hk3, hi3, hk3', _, _⟩
        obtain ⟨ai3, vi3, rfl⟩ := owns_form hi3
        obtain ⟨ak3, vk3, rfl⟩ := owns_form hk3'
        obtain ⟨hb3, hr3⟩ := HSTEP.out _ _ _ _ _ _ hP3 hk3 hi3 hk3'
        have HR3 := Lib.hid hr3
        clear d0 d1 df ld
        obtain ⟨d0, d1, df, ld⟩ := cells2 hb3
        clear hP3 hk3 hi3 hk3' hb3 hr3 C HSTEP
        go_wp2_with fail
        go_roundg (meas (l + 1) L2 out)
        case measure => have := HME.out; omega
        case rel => exact ⟨l + 1, L2, out, _, _, rfl, rfl, by have := HME.out; omega, HST.out, HR3.out⟩
      · have hti : (l % 2 == 1) = false := beq_eq_false_iff_ne.2 ho
        have C := Lib.hid (CG.out ho)
        clear CF CG ho
        go_wp2_with fail
        refine C.out.mono ?_
        rintro e w2 ⟨T3, iv3, kv3, rfl, hP3, hk3, hi3, hk3', _, _⟩
        obtain ⟨ai3, vi3, rfl⟩ := owns_form hi3
        obtain ⟨ak3, vk3, rfl⟩ := owns_form hk3'
        obtain ⟨hb3, hr3⟩ := HSTEP.out _ _ _ _ _ _ hP3 hk3 hi3 hk3'
        have HR3 := Lib.hid hr3
        clear d0 d1 df ld
        obtain ⟨d0, d1, df, ld⟩ := cells2 hb3
        clear hP3 hk3 hi3 hk3' hb3 hr3 C HSTEP
        go_wp2_with fail
        go_roundg (meas (l + 1) L2 out)
        case measure => have := HME.out; omega
        case rel => exact ⟨l + 1, L2, out, _, _, rfl, rfl, by have := HME.out; omega, HST.out, HR3.out⟩
    · have q3 : decide (1 < (ids.length : Int)) = false := decide_eq_false (by omega)
      have hpos := List.length_pos_iff.2 hin.ne
      have hone : ids.length = 1 := by omega
      obtain ⟨x, rfl⟩ := List.length_eq_one_iff.1 hone
      have hx := hri.2 0 (by simp)
      have lx := hri.1
      have HX : Hid (x = x) := rfl
      clear hin hr hP2 hri hrk hgi hgk hci1 hci2 hck1 hck2 htx hgl hm
      simp only [List.getElem_cons_zero] at hx
      simp only [List.length_singleton] at d0 d1
      go_wp2_with fail
      have hin := HIN.out
      have hkn := hin.seq.kn x (by simp)
      have htx := hin.text
      rw [txts_cons] at htx
      refine bodyPost_ret (v := .tuple #[.int .i64 x, .nilIface]) (by simp [results, Tryd.results16, go_sem]) rfl ⟨Lm, T2, x, rfl, HP2.out, HR.out.kx, hin.gu.le (by omega), hkn.1, hkn.2, ?_, (hin.seq.lv x (by simp)).1⟩
      rw [← htx]
      exact (List.append_nil _).symm

/-- No letters. -/
theorem sig_Of_nil {B : Nat} {w : World} {pp tp p mb : Nat} {most : Int} {L : List Ent} {T : List KRow} {a : Option Addr} {c : Nat} (h : Pq B w pp tp p mb most L T) :
    Calls Tryd.prog 16 #[.pointer (some ⟨pp, 0, none⟩), .slice a 0 c] w (fun e w' => e = .returned (.tuple #[.int .i64 0, .nilIface]) ∧ w' = w) := by
  obtain ⟨c0, c1, lp⟩ := h.front
  clear h
  go_enter Tryd.func16, Tryd.ntmps16
  go_wp2_with fail
  exact bodyPost_ret (v := .tuple #[.int .i64 0, .nilIface]) (by simp [results, Tryd.results16, go_sem]) rfl ⟨rfl, rfl⟩

end Go.Proofs.YtodmpcnpedpheaaDoor

/- The walks of package prefix: size, push, drop. -/
set_option linter.unusedSimpArgs false
set_option linter.unusedVariables false
namespace Go.Proofs.YtodmpcnpedpheaaDoor
open Go.RowKit

/-- The cells of a group. -/
def gvZ (p : Int × Int) : List Value := [.int .i64 p.1, .int .i64 p.2]
theorem gvZ_len (g : List (Int × Int)) : (g.flatMap gvZ).length = g.length * 2 := flat_len gvZ 2 g (fun _ _ => rfl)
theorem gz_set (g : List (Int × Int)) (x k m : Int) : ((g ++ [(x, k)]).flatMap gvZ).set (g.length * 2 + 1) (.int .i64 m) = (g ++ [(x, m)]).flatMap gvZ := by
  have hl := gvZ_len g
  rw [List.flatMap_append, List.flatMap_append, List.set_append_right _ _ (by omega), hl]
  simp [gvZ]

/-- A reader in memory. -/
structure Rd (base : Nat) (w : World) (x pp : Nat) (back : Bool) (td : List (Int × Int)) (v : Value) : Prop where
  box : w.heap[x]? = some (Obj.cells #[.pointer (some ⟨pp, 0, none⟩), .bool back, v] 135 (0, 0))
  row : w.ownsRow base 102 2 v td.length (td.flatMap gvZ)

def rdS (x : Nat) (v : Value) (k : Nat) : Prop := k = x ∨ v.ownBlock = some k

theorem Rd.keep {S : Nat → Prop} {base : Nat} {w w' : World} {x pp : Nat} {back : Bool} {td : List (Int × Int)} {v : Value} (h : Rd base w x pp back td v) (hf : Fr S w w') (h1 : ¬ S x) (h2 : ∀ k, v.ownBlock = some k → ¬ S k) : Rd base w' x pp back td v := ⟨hf.kept h.box h1, hf.owns h.row h2⟩
theorem Rd.kept0 {base : Nat} {w w' : World} {x pp : Nat} {back : Bool} {td : List (Int × Int)} {v : Value} (h : Rd base w x pp back td v) (hf : Fr0 w w') : Rd base w' x pp back td v := ⟨hf.kept h.box, hf.owns h.row⟩
theorem Rd.keptX {B mb base : Nat} {w w' : World} {x pp : Nat} {back : Bool} {td : List (Int × Int)} {v : Value} (h : Rd base w x pp back td v) (hf : Kx B mb w w') : Rd base w' x pp back td v := ⟨hf.cells _ _ _ _ h.box (by decide) id, Kx.owns hf h.row (by decide)⟩
theorem Rd.blk {base : Nat} {w : World} {x pp : Nat} {back : Bool} {td : List (Int × Int)} {v : Value} (h : Rd base w x pp back td v) {k : Nat} (hk : v.ownBlock = some k) : base ≤ k ∧ k < w.heap.size ∧ (∃ cur, w.heap[k]? = some (Obj.cells cur 102 (0, 0))) ∧ k ≠ x := by
  obtain ⟨cur, hc⟩ := owns_block h.row hk
  exact ⟨(h.row.lt k hk).1, (h.row.lt k hk).2, ⟨cur, hc⟩, fun e => by rw [e] at hc; exact ne_of_types hc h.box (by decide) rfl⟩

/-- A parser behind changes of a reader. -/
theorem Rd.ko {B base : Nat} {w w' : World} {x pp : Nat} {back : Bool} {td : List (Int × Int)} {v : Value} (h : Rd base w x pp back td v) (hB : B ≤ base) (hx : B ≤ x) (hf : Fr (rdS x v) w w') : Ko B w w' :=
  (Ko.refl B w).fr hf (fun i hi => by
    rcases hi with rfl | hi
    · exact ⟨hx, _, _, _, h.box, by decide⟩
    · obtain ⟨h1, h2, ⟨cur, hc⟩, _⟩ := h.blk hi
      exact ⟨by omega, _, _, _, hc, by decide⟩)

/-- What a change of a reader leaves. -/
def RdPost (base : Nat) (w : World) (x pp : Nat) (back : Bool) (td' : List (Int × Int)) (v : Value) (e : Ending) (w' : World) : Prop :=
  ∃ v', e = .returned (.tuple #[]) ∧ Rd base w' x pp back td' v' ∧ Fr (rdS x v) w w' ∧ ∀ k, v'.ownBlock = some k → v.ownBlock = some k ∨ w.heap.size ≤ k

/-- The length of a text. -/
theorem px_size {B : Nat} {w : World} {pp tp p mb : Nat} {most : Int} {L : List Ent} {T : List KRow} (h : Pq B w pp tp p mb most L T) (id : Int) (hk : isKnown L id) :
    Calls Tryd.prog 59 #[.pointer (some ⟨pp, 0, none⟩), .int .i64 id] w fun e w' => e = .returned (.int .i64 (txt L id).length) ∧ Fr0 w w' := by
  have C1 := Lib.hid (sig_Store h)
  have C2 := Lib.hid (sto_Weight h.st id hk)
  have hl := txt_len h.dok h.sok _ id (Nat.le_refl _) hk
  clear h hk
  generalize (entAt L id).wt = W0 at *
  go_enter Tryd.func59, Tryd.ntmps59
  go_wp2_with fail
  refine C1.out.mono ?_
  rintro e w1 ⟨rfl, rfl⟩
  go_wp2_with fail
  refine C2.out.mono ?_
  rintro e w2 ⟨rfl, hf⟩
  go_wp2_with fail
  go_ret
  exact ⟨by rw [hl]; rfl, hf.alloc _⟩

theorem Rd.put {base : Nat} {w4 : World} {x pp : Nat} {back : Bool} {td : List (Int × Int)} {u v : Value} (hb : w4.heap[x]? = some (Obj.cells #[.pointer (some ⟨pp, 0, none⟩), .bool back, u] 135 (0, 0))) (hr : w4.ownsRow base 102 2 v td.length (td.flatMap gvZ)) :
    Rd base (w4.setCell ⟨x, 2, none⟩ v) x pp back td v := by
  have hf : Fr (fun k => k = x) w4 (w4.setCell ⟨x, 2, none⟩ v) := fr_set1 (Fr.refl _ w4) 2 v
  refine ⟨setCell_block hb 2 v, hf.owns hr (fun z hz e => ?_)⟩
  obtain ⟨cur, hc⟩ := owns_block hr hz
  rw [e] at hc
  exact ne_of_types hc hb (by decide) rfl

set_option maxRecDepth 100000 in
set_option maxHeartbeats 4000000 in
theorem rd_push {base : Nat} {w : World} {x pp : Nat} {back : Bool} {td : List (Int × Int)} {v : Value} (h : Rd base w x pp back td v) (hb : base ≤ w.heap.size) (hn : td.length ≤ 1000000) (s k : Int) :
    Calls Tryd.prog 77 #[.pointer (some ⟨x, 0, none⟩), .int .i64 s, .int .i64 k] w (RdPost base w x pp back (td ++ [(s, k)]) v) := by
  obtain ⟨c0, c1, c2, cf, lx⟩ := cells3 h.box
  obtain ⟨va, vc, rfl⟩ := owns_form h.row
  have H := Lib.hid h
  clear h
  go_enter Tryd.func77, Tryd.ntmps77
  go_wp2_with (at_builtin; refine wpList_pushG (vals := gvZ) rt_group rfl _ _ rfl base (.slice va td.length vc) td rfl H.out.row hb 102 (s, k) #[.int .i64 s, .int .i64 k] rfl rfl (by simp [gvZ, Value.oneCell']) 1 _ rfl rfl (by omega) hn ?_; intro v' w4 hO4 hg4 hat4; have HF4 := Lib.hid (Fr.grown (S := rdS x (.slice va td.length vc)) (Fr0.fr ((Fr0.refl w).alloc (.cells #[.int .i64 s, .int .i64 k] 102 (0, 0)))) hg4 (fun k hk _ => .inr hk)); have hbx4 := Fr.kept (Fr.grown (S := fun k => (Value.slice va td.length vc).ownBlock = some k) (Fr0.fr ((Fr0.refl w).alloc (.cells #[.int .i64 s, .int .i64 k] 102 (0, 0)))) hg4 (fun k hk _ => hk)) H.out.box (fun e => (H.out.blk e).2.2.2 rfl); obtain ⟨g, gc, hv', _⟩ := own_end hO4 (gvZ_len _); subst hv'; clear c0 c1 c2 cf lx; obtain ⟨c0, c1, c2, cf, lx⟩ := cells3 hbx4; have HO4 := Lib.hid hO4; have HB4 := Lib.hid hbx4; have HAT4 := Lib.hid hat4; clear hO4 hg4 hbx4 hat4)
  refine bodyPost_ret (v := .tuple #[]) (by simp [results, Tryd.results77, go_sem]) rfl ⟨_, rfl, Rd.put HB4.out (by simpa only [List.length_append, List.length_singleton] using HO4.out), HF4.out.setCell _ _ (fun _ => .inl rfl), fun k hk => ?_⟩
  rcases HAT4.out with e | e
  · exact .inl (e.symm.trans hk)
  · have e2 := Option.some.inj (e.symm.trans hk)
    exact .inr (by omega)

set_option maxRecDepth 100000 in
set_option maxHeartbeats 4000000 in
theorem rd_drop {base : Nat} {w : World} {x pp : Nat} {back : Bool} {td : List (Int × Int)} {s k : Int} {v : Value} (h : Rd base w x pp back (td ++ [(s, k)]) v) (hn : td.length ≤ 1000000) (j : Int) (hj0 : 0 ≤ j) (hjk : j ≤ k) (hk : k ≤ 1152921504606846976) :
    Calls Tryd.prog 74 #[.pointer (some ⟨x, 0, none⟩), .int .i64 j] w (RdPost base w x pp back (drpG td s (k - j)) v) := by
  obtain ⟨c0, c1, c2, cf, lx⟩ := cells3 h.box
  obtain ⟨g, gc, rfl, hbg, lg, gf, gcell, hg1, hg2⟩ := own_end h.row (gvZ_len _)
  have g1 := gcell 1 _ rfl
  have H := Lib.hid h
  have q1 : (0 : Int) ≤ (td.length : Int) := by omega
  have q2 : (td.length : Int) < (td.length : Int) + 1 := by omega
  have q3 : IntKind.i64.wrap ((td.length : Int) + 1 - 1) = (td.length : Int) := by rw [show (td.length : Int) + 1 - 1 = (td.length : Int) by omega]; exact wrapI (by omega) (by omega)
  have q4 : IntKind.i64.wrap (k - j) = k - j := wrapI (by omega) (by omega)
  have hgx : g ≠ x := (h.blk rfl).2.2.2
  clear h gcell hbg
  go_enter Tryd.func74, Tryd.ntmps74
  go_wp2_with fail
  go_quiet (fail)
  have F5 : Fr0 w (w.drewN nq) := (Fr0.refl w).drewN nq
  generalize w.drewN nq = W5 at *
  have H5 := H.out.kept0 F5
  have HF5 := Lib.hid F5
  clear c0 c1 c2 cf lx lg gf g1 hg1 hg2 F5
  obtain ⟨c0, c1, c2, cf, lx⟩ := cells3 H5.box
  obtain ⟨g', gc', hgv, hbg, lg, gf, gcell, hg1, hg2⟩ := own_end H5.row (gvZ_len _)
  simp only [Value.slice.injEq, Option.some.injEq, Addr.mk.injEq, and_true, true_and] at hgv
  obtain ⟨rfl, rfl⟩ := hgv
  have g1 := gcell 1 _ rfl
  have H5' := Lib.hid H5
  have hr5 := H5.row
  rw [List.length_append, List.length_singleton] at hr5
  have r1 := owns_set_own hr5 (td.length * 2 + 1) (.int .i64 (k - j)) (by rw [gvZ_len, List.length_append, List.length_singleton]; omega)
  rw [gz_set] at r1
  have hfs : Fr (fun k => k = g) W5 (W5.setCell ⟨g, td.length * 2 + 1, none⟩ (.int .i64 (k - j))) := fr_set1 (Fr.refl _ W5) _ _
  have R6 : Hid (Rd base (W5.setCell ⟨g, td.length * 2 + 1, none⟩ (.int .i64 (k - j))) x pp back (td ++ [(s, k - j)]) (.slice (some ⟨g, 0, none⟩) (td.length + 1) gc)) := ⟨hfs.kept H5.box (fun e => hgx e.symm), by rw [List.length_append, List.length_singleton]; exact r1⟩
  have HF6 := Lib.hid hfs
  clear H5 gcell hbg r1 hfs hr5
  by_cases hz : k - j = 0
  · have q5 : (k - j == 0) = true := by rw [hz]; rfl
    rw [hz] at HF6 R6
    go_upto_region 3 with fail
    generalize W5.setCell ⟨g, td.length * 2 + 1, none⟩ (.int .i64 0) = W6 at *
    clear c0 c1 c2 cf lx g1 gf lg H5'
    obtain ⟨c0, c1, c2, cf, lx⟩ := cells3 R6.out.box
    have q8 : ¬ gc = 0 := by omega
    have q9 : (td.length : Int) ≤ (gc : Int) := by omega
    have rp := R6.out.row
    rw [List.length_append, List.length_singleton, List.flatMap_append] at rp
    have RP := Lib.hid (ownsRow_pop (by rw [gvZ_len]) rp)
    clear rp
    go_region
    all_goals
      go_wp2_with fail
      refine bodyPost_ret (v := .tuple #[]) (by simp [results, Tryd.results74, go_sem]) rfl ⟨.slice (some ⟨g, 0, none⟩) td.length gc, rfl, ?_, ?_, fun k hk => .inl hk⟩
      · unfold drpG
        rw [if_pos hz]
        exact Rd.put (R6.out.kept0 (Fr0.refl W6).drew).box ((Fr0.refl W6).drew.owns RP.out)
      · exact (((Fr0.fr HF5.out).trans HF6.out (fun k hk _ => .inr (congrArg some hk.symm))).trans (Fr0.fr (Fr0.refl W6).drew) (fun _ hk _ => hk)).setCell _ _ (fun _ => .inl rfl)
  · have q5 : (k - j == 0) = false := beq_eq_false_iff_ne.2 hz
    go_wp2_with fail
    refine bodyPost_ret (v := .tuple #[]) (by simp [results, Tryd.results74, go_sem]) rfl ⟨_, rfl, ?_, (Fr0.fr HF5.out).trans HF6.out (fun k hk _ => .inr (congrArg some hk.symm)), fun k hk => .inl hk⟩
    unfold drpG
    rw [if_neg hz]
    exact R6.out

end Go.Proofs.YtodmpcnpedpheaaDoor

/- The walk of reader.open. -/
set_option linter.unusedSimpArgs false
set_option linter.unusedVariables false
namespace Go.Proofs.YtodmpcnpedpheaaDoor
open Go.RowKit

/-- A reader moves on. -/
structure RdStep (w : World) (x : Nat) (v : Value) (w' : World) (v' : Value) : Prop where
  fr : Fr (rdS x v) w w'
  own : ∀ k, v'.ownBlock = some k → v.ownBlock = some k ∨ w.heap.size ≤ k

theorem RdStep.of0 {w w' : World} {x : Nat} {v : Value} (h : Fr0 w w') : RdStep w x v w' v := ⟨Fr0.fr h, fun k hk => .inl hk⟩
theorem RdStep.trans {w w1 w2 : World} {x : Nat} {v v1 v2 : Value} (h : RdStep w x v w1 v1) (g : RdStep w1 x v1 w2 v2) : RdStep w x v w2 v2 :=
  ⟨h.fr.trans g.fr (fun k hk hlt => by
    rcases hk with e | e
    · exact .inl e
    · rcases h.own k e with e2 | e2
      · exact .inr e2
      · omega), fun k hk => by
    have := h.fr.size
    rcases g.own k hk with e | e
    · exact h.own k e
    · exact .inr (by omega)⟩
theorem RdStep.then0 {w w1 w2 : World} {x : Nat} {v v1 : Value} (h : RdStep w x v w1 v1) (f : Fr0 w1 w2) : RdStep w x v w2 v1 := h.trans (RdStep.of0 f)


set_option maxRecDepth 100000 in
set_option maxHeartbeats 4000000 in
theorem rd_open {B base : Nat} {w : World} {x pp tp p mb : Nat} {most : Int} {L : List Ent} {T : List KRow} {back : Bool} {td : List (Int × Int)} {s k : Int} {v : Value} (hp : Pq B w pp tp p mb most L T) (h : Rd base w x pp back (td ++ [(s, k)]) v) (hB : B ≤ base) (hx : B ≤ x) (hbs : base ≤ w.heap.size) (hn : td.length ≤ 900000) (hks : isKnown L s) (hs0 : s ≠ 0) (h1 : (entAt L s).rule.kind ≠ 1) (hk1 : 1 ≤ k) (hk : k ≤ 1152921504606846976) :
    Calls Tryd.prog 76 #[.pointer (some ⟨x, 0, none⟩)] w (RdPost base w x pp back (drpG td s (k - 1) ++ opnG L back s) v) := by
  obtain ⟨c0, c1, c2, cf, lx⟩ := cells3 h.box
  obtain ⟨g, gc, rfl, hbg, lg, gf, gcell, hg1, hg2⟩ := own_end h.row (gvZ_len _)
  have g0 := gcell 0 _ rfl
  rw [Nat.add_zero] at g0
  have CD := Lib.hid (fun (W : World) (hf : Fr0 w W) => rd_drop (h.kept0 hf) (by omega) 1 (by omega) hk1 hk)
  have H := Lib.hid h
  have HP := Lib.hid hp
  have q1 : (0 : Int) ≤ (td.length : Int) := by omega
  have q2 : (td.length : Int) < (td.length : Int) + 1 := by omega
  have q3 : IntKind.i64.wrap ((td.length : Int) + 1 - 1) = (td.length : Int) := by rw [show (td.length : Int) + 1 - 1 = (td.length : Int) by omega]; exact wrapI (by omega) (by omega)
  have hkd : (entAt L s).rule.kind = 2 ∨ (entAt L s).rule.kind = 3 := by
    rcases hp.dok.at s hks hs0 with ⟨g1, _⟩ | ⟨g1, _⟩ | ⟨g1, _⟩
    · exact absurd g1 h1
    · exact .inl g1
    · exact .inr g1
  have hdl : (drpG td s (k - 1)).length ≤ td.length + 1 := by unfold drpG; split <;> simp
  obtain ⟨E, hE⟩ : ∃ E, (entAt L s).rule = E := ⟨_, rfl⟩
  obtain ⟨kd, le, l, r, tm⟩ := E
  have CR := Lib.hid (fun (W : World) (hW : ∃ T', Pq B W pp tp p mb most L T') => by
    obtain ⟨T', hW⟩ := hW
    have hc := sto_Rule hW.st s hks hs0
    rw [hE] at hc
    exact hc)
  have HOP : Hid (opnG L back s = if kd = 3 then [(l, tm)] else if kd = 2 then (if back then [(l, 1), (r, 1)] else [(r, 1), (l, 1)]) else []) := by
    show _ = _
    unfold opnG; rw [hE]
  rw [hE] at hkd
  dsimp only at hkd
  clear h hp gcell hbg h1 hE
  go_enter Tryd.func76, Tryd.ntmps76
  go_wp2_with fail
  go_quiet (fail)
  have F5 : Fr0 w (w.drewN nq) := (Fr0.refl w).drewN nq
  generalize w.drewN nq = W5 at *
  have HF5 := Lib.hid F5
  clear c0 c1 c2 cf lx lg gf g0 hg1 hg2 F5
  go_wp2_with fail
  refine (CD.out W5 HF5.out).mono ?_
  rintro e w1 ⟨v1, rfl, r1, f1, o1⟩
  have S1 := Lib.hid ((RdStep.of0 HF5.out).trans ⟨f1, o1⟩)
  have P1 := Lib.hid ((HP.out.kept0 HF5.out).keptO (Rd.ko (H.out.kept0 HF5.out) hB hx f1))
  have R1 := Lib.hid r1
  have s1 : base ≤ w1.heap.size := by have a1 := Fr.size HF5.out; have a2 := f1.size; omega
  clear f1 o1 r1 CD
  obtain ⟨c0, c1, c2, cf, lx⟩ := cells3 R1.out.box
  have C1 := Lib.hid (sig_Store P1.out)
  go_wp2_with fail
  refine C1.out.mono ?_
  rintro e w2 ⟨rfl, rfl⟩
  go_wp2_with fail
  refine (CR.out _ ⟨_, P1.out⟩).mono ?_
  rintro e w2 ⟨rfl, hf2⟩
  go_upto_if 30 with fail
  have F3 : Fr0 w1 (w2.alloc (.cells #[.int .i64 kd, .int .u8 le, .int .i64 l, .int .i64 r, .int .i64 tm] 112 (0, 0))) := hf2.alloc _
  have b8 := alloc_at w2 (.cells #[.int .i64 kd, .int .u8 le, .int .i64 l, .int .i64 r, .int .i64 tm] 112 (0, 0)) w2.heap.size rfl
  generalize w2.alloc (.cells #[.int .i64 kd, .int .u8 le, .int .i64 l, .int .i64 r, .int .i64 tm] 112 (0, 0)) = W3 at *
  generalize w2.heap.size = K at *
  have R3 := R1.out.kept0 F3
  have S3 := Lib.hid (S1.out.then0 F3)
  have s3 : base ≤ W3.heap.size := by have := Fr.size F3; omega
  have HR3 := Lib.hid R3
  have HB8 := Lib.hid b8
  have kx : ∀ u : Value, ∀ td', Rd base W3 x pp back td' u → ¬ rdS x u K := fun u td' hr hc => by
    rcases hc with e | e
    · subst e; exact ne_of_types b8 hr.box (by decide) rfl
    · obtain ⟨cur, hq⟩ := owns_block hr.row e
      exact ne_of_types b8 hq (by decide) rfl
  have kx1 := Lib.hid (kx _ _ R3)
  clear c0 c1 c2 cf lx C1 R1 S1 P1 HP H HF5 CR hf2 F3 kx
  obtain ⟨c0, c1, c2, cf, lx⟩ := cells3 R3.box
  obtain ⟨e0, e1, e2, e3, e4, le8⟩ := cells5 b8
  clear R3 b8
  rcases hkd with rfl | rfl
  · cases back with
    | true =>
      go_wp2_with fail
      refine (rd_push HR3.out s3 (by omega) l 1).mono ?_
      rintro e w4 ⟨v4, rfl, r4, f4, o4⟩
      have S4 := Lib.hid (S3.out.trans ⟨f4, o4⟩)
      have s4 : base ≤ w4.heap.size := by have := f4.size; omega
      have b9 := f4.kept HB8.out kx1.out
      have R4 := Lib.hid r4
      clear c0 c1 c2 cf lx e0 e1 e2 e3 e4 le8 r4 f4 o4
      obtain ⟨c0, c1, c2, cf, lx⟩ := cells3 R4.out.box
      obtain ⟨e0, e1, e2, e3, e4, le8⟩ := cells5 b9
      go_wp2_with fail
      refine (rd_push R4.out s4 (by simp; omega) r 1).mono ?_
      rintro e w5 ⟨v5, rfl, r5, f5, o5⟩
      have S5 := S4.out.trans ⟨f5, o5⟩
      go_wp2_with fail
      refine bodyPost_ret (v := .tuple #[]) (by simp [results, Tryd.results76, go_sem]) rfl ⟨v5, rfl, ?_, S5.fr, S5.own⟩
      rw [HOP.out, if_neg (by decide), if_pos trivial, if_pos trivial]
      rw [List.append_assoc] at r5
      exact r5
    | false =>
      go_wp2_with fail
      refine (rd_push HR3.out s3 (by omega) r 1).mono ?_
      rintro e w4 ⟨v4, rfl, r4, f4, o4⟩
      have S4 := Lib.hid (S3.out.trans ⟨f4, o4⟩)
      have s4 : base ≤ w4.heap.size := by have := f4.size; omega
      have b9 := f4.kept HB8.out kx1.out
      have R4 := Lib.hid r4
      clear c0 c1 c2 cf lx e0 e1 e2 e3 e4 le8 r4 f4 o4
      obtain ⟨c0, c1, c2, cf, lx⟩ := cells3 R4.out.box
      obtain ⟨e0, e1, e2, e3, e4, le8⟩ := cells5 b9
      go_wp2_with fail
      refine (rd_push R4.out s4 (by simp; omega) l 1).mono ?_
      rintro e w5 ⟨v5, rfl, r5, f5, o5⟩
      have S5 := S4.out.trans ⟨f5, o5⟩
      go_wp2_with fail
      refine bodyPost_ret (v := .tuple #[]) (by simp [results, Tryd.results76, go_sem]) rfl ⟨v5, rfl, ?_, S5.fr, S5.own⟩
      rw [HOP.out, if_neg (by decide), if_pos trivial, if_neg (by decide)]
      rw [List.append_assoc] at r5
      exact r5
  · go_wp2_with fail
    refine (rd_push HR3.out s3 (by omega) l tm).mono ?_
    rintro e w5 ⟨v5, rfl, r5, f5, o5⟩
    have S5 := S3.out.trans ⟨f5, o5⟩
    go_wp2_with fail
    refine bodyPost_ret (v := .tuple #[]) (by simp [results, Tryd.results76, go_sem]) rfl ⟨v5, rfl, ?_, S5.fr, S5.own⟩
    rw [HOP.out, if_pos trivial]
    exact r5

end Go.Proofs.YtodmpcnpedpheaaDoor

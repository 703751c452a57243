/- The walks of the memo's functions, for texts that are parsed at once. -/
import Derived.Test.YtgldjpldldknoaaGreatDoorRSw8
import Derived.Test.YtgldjpldldknoaaGreatDoorRAk0
import Derived.Test.YtgldjpldldknoaaGreatDoorRAc5
import Derived.Test.YtgldjpldldknoaaGreatDoorRDq6
import Derived.Test.YtgldjpldldknoaaGreatDoorRSet
import Derived.Test.YtgldjpldldknoaaGreatDoorRMr2
set_option linter.unusedSimpArgs false
set_option linter.unusedVariables false
namespace Go.Proofs.YtgldjpldldknoaaGreatDoor
open Go.RowKit
theorem rowC_byt {w : World} {bb : Nat} {bs : List Int} (h : BytesAt w bb 0 bs) : RowC w bb .u8 bs := by
 obtain ⟨cur, fr, h1, h2⟩ := h.blk
 refine ⟨lt_of_block h1, fun i hi => ?_⟩
 rw [cell_of_block h1, ← h2 i hi, Nat.zero_add]
set_option maxRecDepth 100000 in
set_option maxHeartbeats 400000 in
theorem cn_Parser {w : World} {mp pp kb : Nat} (h : w.heap[mp]? = some (Obj.cells #[.pointer (some ⟨pp, 0, none⟩), .map (some kb)] 103 (0, 0))) :
    Calls Tryz.prog 35 #[.pointer (some ⟨mp, 0, none⟩)] w fun e w' => e = .returned (.pointer (some ⟨pp, 0, none⟩)) ∧ w = w' := by
 obtain ⟨c0, c1, cf, lm⟩ := cells2 h
 clear h
 go_enter Tryz.func35, Tryz.ntmps35
 go_wp2_with fail
 go_ret
 exact ⟨rfl, rfl⟩
set_option maxRecDepth 100000 in
set_option maxHeartbeats 400000 in
theorem cn_New {B : Nat} {w : World} {pp tp p mb : Nat} {most : Int} {L : List Ent} {T : List KRow} (h : Pq B w pp tp p mb most L T) :
    Calls Tryz.prog 16 #[.pointer (some ⟨pp, 0, none⟩)] w fun e w' => ∃ mp kb, e = .returned (.pointer (some ⟨mp, 0, none⟩)) ∧ Me B w' mp kb pp tp p mb most L ∧ Fr0 w w' ∧ w.heap.size ≤ kb ∧ kb ≠ mb := by
 have HP := Lib.hid h
 have hmm := @run_makeMap Tryz.prog
 have hbw := h.base
 have hlt : Hid (mb < w.heap.size) := by
  obtain ⟨sv, hS, _⟩ := h.st
  exact lt_of_block hS.mp
 clear h
 go_enter Tryz.func16, Tryz.ntmps16
 go_wp2_with fail
 go_ret
 have F : Fr0 w ((w.alloc (.map #[] 0)).alloc (.cells #[.pointer (some ⟨pp, 0, none⟩), .map (some w.heap.size)] 103 (0, 0))) := ((Fr0.refl w).alloc _).alloc _
 refine ⟨_, w.heap.size, rfl, Mq.start HP.out F (alloc_at _ _ _ (by simp)) ?_ (fun e => by have := hlt.out; rw [e] at this; exact Nat.lt_irrefl _ this) hbw, F, Nat.le_refl _, by have := hlt.out; omega⟩
 exact ((Fr0.refl _).alloc _).kept (alloc_at w _ _ rfl)
set_option maxRecDepth 100000 in
set_option maxHeartbeats 400000 in
theorem cn_remember {B : Nat} {w : World} {mp kb pp tp p mb : Nat} {most : Int} {L : List Ent} {T : List KRow} {kn : List (Int × Int)} (h : Mq B w mp kb pp tp p mb most L T kn) {x y : Int} (hx : knOf x kn = none) (h1 : isKnown L x) (h2 : isKnown L y) (h3 : txt L y = txt L x) (h4 : Sig L (txt L x) y) :
    Calls Tryz.prog 67 #[.pointer (some ⟨mp, 0, none⟩), .int .i64 x, .int .i64 y, .nilIface] w fun e w' => e = .returned .nilIface ∧ Mq B w' mp kb pp tp p mb most L T (kn ++ [(x, y)]) ∧ Kk B mb kb w w' := by
 obtain ⟨c0, c1, cf, lm⟩ := cells2 h.box
 have hu := run_update_kn x y w h.kmap hx
 have HR := Lib.hid (h.put h1 h2 h3 h4)
 clear h
 go_enter Tryz.func67, Tryz.ntmps67
 go_wp2_with fail
 go_ret
 have hr := HR.out
 rw [show (kn ++ [(x, y)]).length = kn.length + 1 from by simp] at hr
 exact ⟨rfl, hr⟩
set_option maxRecDepth 100000 in
set_option maxHeartbeats 1000000 in
theorem cn_learn {B : Nat} {w : World} {mp kb pp tp p mb : Nat} {most : Int} {L : List Ent} {T : List KRow} {kn : List (Int × Int)} (h : Mq B w mp kb pp tp p mb most L T kn) {x : Int} (hx : knOf x kn = none) (hk : isKnown L x) (h0 : x ≠ 0) (hl : (txt L x).length ≤ 256) (hm : ((L.length + 2 * (txt L x).length : Nat) : Int) ≤ most) (hL : L.length + 2 * (txt L x).length ≤ 500000) :
    Calls Tryz.prog 56 #[.pointer (some ⟨mp, 0, none⟩), .int .i64 x] w fun e w' => ∃ L' T' y, e = .returned (.tuple #[.int .i64 0, .nilIface]) ∧ Mq B w' mp kb pp tp p mb most L' T' (kn ++ [(x, y)]) ∧ Kk B mb kb w w' ∧ Gu L L' (2 * (txt L x).length) := by
 have hbw := h.pq.base
 have hpos := txt_pos h.pq.sok h.pq.dok hk h0
 have hrng := Lib.hid (txt_rng h.pq.dok h.pq.uq _ x (Nat.le_refl _) hk)
 have hlen := txt_len h.pq.dok h.pq.sok _ x (Nat.le_refl _) hk
 have HM := Lib.hid h
 have HX := Lib.hid hx
 have CW := Lib.hid (fun W (hW : Fr0 w W) => sto_Weight (h.kept0 hW).pq.st x hk)
 rw [← hlen] at CW
 generalize (entAt L x).wt = wt at *
 have hm4 : 4 * (txt L x).length * x.toNat ≤ 4000000000 := by
  have hk2 := hk.2
  have hk1 := hk.1
  have e1 : 4 * (txt L x).length ≤ 1024 := by omega
  have e2 : x.toNat ≤ 500000 := by omega
  have := Nat.mul_le_mul e1 e2
  omega
 have CE := Lib.hid (fun W (hW : Fr0 w W) => ac_Extract (h.kept0 hW).pq.st h.pq.sok h.pq.dok h.pq.uq (Nat.le_trans hbw (Fr.size hW)) x hk 0 (txt L x).length (by omega) (by omega) hm4)
 rw [rngT_all] at CE
 have HT : Hid (∃ t, txt L x = t) := ⟨_, rfl⟩
 obtain ⟨t, ht⟩ := HT.out
 have HTE := Lib.hid ht
 rw [ht] at hpos hrng hlen hl hm4 hm hL CW CE ⊢
 have hne : t ≠ [] := fun e => by rw [e] at hpos; simp at hpos
 have HK := Lib.hid hk
 have q1 : decide ((t.length : Int) ≤ 256) = true := decide_eq_true (by omega)
 obtain ⟨c0, c1, cf, lm⟩ := cells2 h.box
 have CS := Lib.hid (sig_Store h.pq)
 clear h hk hlen hm4 ht HT hx
 go_enter Tryz.func56, Tryz.ntmps56
 go_wp2_with fail
 refine CS.out.mono ?_
 rintro e w1 ⟨rfl, rfl⟩
 have CW1 := Lib.hid (CW.out _ (Fr0.refl _))
 clear CS CW
 go_wp2_with fail
 refine CW1.out.mono ?_
 rintro e w2 ⟨rfl, f2⟩
 go_upto_region 5 with fail
 have F3 : Fr0 w (w2.alloc (.cells #[.int .i64 t.length, .int .i64 wt.lines, .int .i64 wt.head, .int .i64 wt.tail, .int .u64 wt.val, .int .u64 wt.scale] 47 (0, 0))) := f2.alloc _
 have b3 := alloc_at w2 (.cells #[.int .i64 t.length, .int .i64 wt.lines, .int .i64 wt.head, .int .i64 wt.tail, .int .u64 wt.val, .int .u64 wt.scale] 47 (0, 0)) w2.heap.size rfl
 generalize w2.alloc (.cells #[.int .i64 t.length, .int .i64 wt.lines, .int .i64 wt.head, .int .i64 wt.tail, .int .u64 wt.val, .int .u64 wt.scale] 47 (0, 0)) = W3 at *
 generalize w2.heap.size = K3 at *
 obtain ⟨e0, _, _, _, _, _, le, _⟩ := cells6t b3
 have CE3 := Lib.hid (CE.out W3 F3)
 have HF3 := Lib.hid F3
 clear c0 c1 cf lm f2 F3 b3 CW1 CE
 go_wp2_with fail
 refine CE3.out.mono ?_
 rintro e w4 ⟨v4, rfl, ho4, f4⟩
 have F4 := HF3.out.trans f4
 obtain ⟨g4, c4, rfl, hB4, hg4, hg5⟩ := bytes_own ho4 hne hrng.out
 obtain ⟨cur, hcur⟩ := owns_block ho4 rfl
 have hM4 := HM.out.kept0 F4
 have CO := Lib.hid (sig_OfS (cap := c4) hM4.pq (rowC_byt hB4) ⟨_, _, _, hcur, by decide⟩ hrng.out hne (by omega) (by omega) (by omega))
 obtain ⟨c0, c1, cf, lm⟩ := cells2 hM4.box
 have HF4 := Lib.hid F4
 have HM4 := Lib.hid hM4
 clear e0 le CE3 HF3 f4 ho4 hB4 hcur F4 hM4
 go_wp2_with fail
 refine CO.out.mono ?_
 rintro e w5 ⟨L5, T5, y, rfl, hp5, hx5, hg5', hk5, _, ht5, _, hs5⟩
 obtain ⟨M, hM⟩ := hg5'.gr.ext
 have hq5 : Mq B w5 mp kb pp tp p mb most L5 T5 kn :=
  ⟨hp5, hx5.cells _ _ _ _ HM4.out.box (by decide) id, hx5.maps _ _ _ HM4.out.kmap HM4.out.ne id, HM4.out.ne, HM4.out.low, HM4.out.ok.more HM4.out.pq.dok hg5'.gr⟩
 have hkx5 : isKnown L5 x := by rw [hM]; exact known_more HK.out M
 have htx5 : txt L5 x = t := by rw [hM, txt_append HM4.out.pq.dok M HK.out, HTE.out]
 have CR := Lib.hid (cn_remember hq5 HX.out hkx5 hk5 (by rw [ht5, htx5]) (by rw [htx5]; exact hs5))
 have HG5 := Lib.hid (hg5'.le (n := 2 * t.length) (by omega))
 have HX5 := Lib.hid (Kk.trans (Kk.of0 (kb := kb) (B := B) (mb := mb) HF4.out) (Kk.ofX hx5))
 clear hp5 hx5 hg5' hk5 ht5 hs5 hM hq5 hkx5 htx5 CO c0 c1 cf lm HM4 HF4
 go_wp2_with fail
 refine CR.out.mono ?_
 rintro e w6 ⟨rfl, hq6, hk6⟩
 go_wp2_with fail
 go_ret2
 exact ⟨L5, T5, y, rfl, hq6, HX5.out.trans hk6, HG5.out⟩
def CnPost (B : Nat) (w : World) (mp kb pp tp p mb : Nat) (most : Int) (L : List Ent) (x : Int) (e : Ending) (w' : World) : Prop :=
 ∃ L' y, e = .returned (.tuple #[.int .i64 y, .nilIface]) ∧ Me B w' mp kb pp tp p mb most L' ∧ Kk B mb kb w w' ∧ Gu L L' (2 * (txt L x).length) ∧ isKnown L' y ∧ txt L' y = txt L x ∧ Sig L' (txt L x) y
theorem KnOk.of {L : List Ent} {kn : List (Int × Int)} (h : KnOk L kn) {x y : Int} (hx : knOf x kn = some y) : isKnown L y ∧ txt L y = txt L x ∧ Sig L (txt L x) y := by
 obtain ⟨_, h2, h3, h4⟩ := h _ (knOf_mem hx)
 exact ⟨h2, h3, h4⟩
theorem sto_LenR {B : Nat} {w : World} {p mb : Nat} {most : Int} {L : List Ent} (h : Sto B w p mb most L) :
    Calls Tryz.prog 55 #[.pointer (some ⟨p, 0, none⟩)] w fun e w' => e = .returned (.int .i64 L.length) ∧ w = w' := by
 obtain ⟨sv, hS, _⟩ := h
 exact st_Len hS
set_option maxRecDepth 100000 in
set_option maxHeartbeats 1000000 in
theorem cn_Of {B : Nat} {w : World} {mp kb pp tp p mb : Nat} {most : Int} {L : List Ent} (h : Me B w mp kb pp tp p mb most L) {x : Int} (hk : isKnown L x) (h0 : x ≠ 0) (hl : (txt L x).length ≤ 256) (hm : ((L.length + 2 * (txt L x).length : Nat) : Int) ≤ most) (hL : L.length + 2 * (txt L x).length ≤ 500000) :
    Calls Tryz.prog 39 #[.pointer (some ⟨mp, 0, none⟩), .int .i64 x] w (CnPost B w mp kb pp tp p mb most L x) := by
 obtain ⟨T, kn, h⟩ := h
 obtain ⟨c0, c1, cf, lm⟩ := cells2 h.box
 have CS := Lib.hid (sig_Store h.pq)
 have CL := Lib.hid (sto_LenR h.pq.st)
 have z1 : decide (x < 0) = false := decide_eq_false (by have := hk.1; omega)
 have z2 : decide ((L.length : Int) < x) = false := decide_eq_false (by have := hk.2; omega)
 have z3 : (x == 0) = false := beq_eq_false_iff_ne.2 h0
 have HM := Lib.hid h
 have HK := Lib.hid hk
 have HDK := Lib.hid h.pq.dok
 have HH := Lib.hid (fun W (hW : Fr0 w W) (hx : knOf x kn = none) => cn_learn (h.kept0 hW) hx hk h0 hl hm hL)
 obtain ⟨n0, hn0⟩ : ∃ n0 : Nat, (n0 = 2 ∧ knOf x kn = none) ∨ (n0 = 1 ∧ ∃ y, knOf x kn = some y) := by
  cases hx : knOf x kn with
  | none => exact ⟨2, .inl ⟨rfl, rfl⟩⟩
  | some y => exact ⟨1, .inr ⟨rfl, y, rfl⟩⟩
 have HN := Lib.hid hn0
 clear h hk hl hm hL hn0
 go_enter Tryz.func39, Tryz.ntmps39
 go_wp2_with fail
 refine CS.out.mono ?_
 rintro e w1 ⟨rfl, rfl⟩
 go_wp2_with fail
 refine CS.out.mono ?_
 rintro e w1 ⟨rfl, rfl⟩
 go_wp2_with fail
 refine CL.out.mono ?_
 rintro e w1 ⟨rfl, rfl⟩
 clear CS CL
 go_wp2_with fail
 have F1 : Fr0 w (w.alloc (.cells #[.int .i64 x] 28 (0, 0))) := (Fr0.refl w).alloc _
 have b1 := alloc_at w (.cells #[.int .i64 x] 28 (0, 0)) w.heap.size rfl
 have HF1 := Lib.hid F1
 have HB1 := Lib.hid b1
 clear c0 c1 cf lm F1 b1 z1 z2 z3
 go_loopg [6] n0 (fun gk lv wr => ∃ (g : Nat) (L' : List Ent) (T' : List KRow) (kn' : List (Int × Int)), Mq B wr mp kb pp tp p mb most L' T' kn' ∧ Kk B mb kb w wr ∧ Gu L L' (2 * (txt L x).length) ∧
  ((gk = 2 ∧ Fr0 w wr ∧ knOf x kn' = none ∧ kn' = kn ∧ lv = .slice (some ⟨g, 0, none⟩) 1 1 ∧ wr.heap[g]? = some (.cells #[.int .i64 x] 28 (0, 0)))
   ∨ (gk = 1 ∧ (∃ y, knOf x kn' = some y) ∧ lv = .slice (some ⟨g, 0, none⟩) 1 1 ∧ wr.heap[g]? = some (.cells #[.int .i64 x] 28 (0, 0)))
   ∨ (gk = 0 ∧ (∃ y, knOf x kn' = some y) ∧ lv = .slice (some ⟨g, 0, none⟩) 0 1)))
 case atStart =>
  refine ⟨w.heap.size, L, T, kn, HM.out.kept0 HF1.out, Kk.of0 HF1.out, (Gu.refl HM.out.pq.sok HM.out.pq.dok HM.out.pq.uq).le (by omega), ?_⟩
  rcases HN.out with ⟨a, b⟩ | ⟨a, b⟩
  · exact .inl ⟨a, HF1.out, b, rfl, rfl, HB1.out⟩
  · exact .inr (.inl ⟨a, b, rfl, HB1.out⟩)
 case round =>
  obtain ⟨g, L', T', kn', hq, hkk, hgu, hcase⟩ := hrel
  obtain ⟨c0, c1, cf, lm⟩ := cells2 hq.box
  have u2 := run_lookup_kn2 x wr hq.kmap
  have u1 := run_lookup_kn x wr hq.kmap
  have HQ := Lib.hid hq
  have HKK := Lib.hid hkk
  have HGU := Lib.hid hgu
  clear hq hkk hgu HM HF1 HB1 HN
  rcases hcase with ⟨rfl, hf, hx, rfl, rfl, hb⟩ | ⟨rfl, ⟨y, hy⟩, rfl, hb⟩ | ⟨rfl, ⟨y, hy⟩, rfl⟩
  · obtain ⟨d0, df, ld⟩ := cells1t hb
    rw [hx] at u2
    have CH := Lib.hid (HH.out wr hf hx)
    have HB := Lib.hid hb
    have HX := Lib.hid hx
    clear hf hx hb HH u1
    go_wp2_with fail
    refine CH.out.mono ?_
    rintro e w2 ⟨L2, T2, y, rfl, hq2, hk2, hg2⟩
    have hb2 := hk2.cells _ _ _ _ HB.out (by decide) (fun e => by
     have := HQ.out.kmap
     rw [← e, HB.out] at this
     cases this)
    go_wp2_with fail
    go_roundg 1
    case measure => omega
    case rel => exact ⟨g, L2, T2, _, hq2, HKK.out.trans hk2, hg2, .inr (.inl ⟨rfl, ⟨y, knOf_push HX.out⟩, rfl, hb2⟩)⟩
  · obtain ⟨d0, df, ld⟩ := cells1t hb
    rw [hy] at u2
    clear u1 HH hb
    go_wp2_with fail
    go_roundg 0
    case measure => omega
    case rel => exact ⟨g, L', T', kn', HQ.out, HKK.out, HGU.out, .inr (.inr ⟨rfl, ⟨y, hy⟩, rfl⟩)⟩
  · rw [hy] at u1
    clear u2 HH
    go_wp2_with fail
    go_ret2
    obtain ⟨r1, r2, r3⟩ := HQ.out.ok.of hy
    obtain ⟨M, hM⟩ := HGU.out.gr.ext
    have e1 : txt L' x = txt L x := by rw [hM]; exact txt_append HDK.out M HK.out
    rw [e1] at r2 r3
    exact ⟨L', y, rfl, ⟨T', kn', HQ.out⟩, HKK.out, HGU.out, r1, r2, r3⟩
end Go.Proofs.YtgldjpldldknoaaGreatDoor
/- The walks of Memo.Same and merge.equal. -/
set_option linter.unusedSimpArgs false
set_option linter.unusedVariables false
namespace Go.Proofs.YtgldjpldldknoaaGreatDoor
open Go.RowKit
def EqPost (B : Nat) (w : World) (mp kb pp tp p mb : Nat) (most : Int) (L : List Ent) (n : Nat) (b : Bool) (e : Ending) (w' : World) : Prop :=
 ∃ L', e = .returned (.tuple #[.bool b, .nilIface]) ∧ Me B w' mp kb pp tp p mb most L' ∧ Kk B mb kb w w' ∧ Gu L L' n
set_option maxRecDepth 100000 in
set_option maxHeartbeats 400000 in
theorem cn_Same {B : Nat} {w : World} {mp kb pp tp p mb : Nat} {most : Int} {L : List Ent} (h : Me B w mp kb pp tp p mb most L) {x y : Int} (kx : isKnown L x) (ky : isKnown L y) (x0 : x ≠ 0) (y0 : y ≠ 0) (lx : (txt L x).length ≤ 256) (ly : (txt L y).length ≤ 256) (hm : ((L.length + (2 * (txt L x).length + 2 * (txt L y).length) : Nat) : Int) ≤ most) (hL : L.length + (2 * (txt L x).length + 2 * (txt L y).length) ≤ 500000) :
    Calls Tryz.prog 21 #[.pointer (some ⟨mp, 0, none⟩), .int .i64 x, .int .i64 y] w (EqPost B w mp kb pp tp p mb most L (2 * (txt L x).length + 2 * (txt L y).length) (decide (txt L x = txt L y))) := by
 have C1 := Lib.hid (cn_Of h kx x0 lx (by omega) (by omega))
 have hD := Lib.hid h.dok
 have C2 : Hid (∀ W L', Me B W mp kb pp tp p mb most L' → Gu L L' (2 * (txt L x).length) → Calls Tryz.prog 39 #[.pointer (some ⟨mp, 0, none⟩), .int .i64 y] W (CnPost B W mp kb pp tp p mb most L' y) ∧ txt L' y = txt L y) := fun W L' hW hg => by
  obtain ⟨M, hM⟩ := hg.gr.ext
  have hl := hg.gr.len
  have e : txt L' y = txt L y := by rw [hM]; exact txt_append hD.out M ky
  exact ⟨cn_Of hW (by rw [hM]; exact known_more ky M) y0 (by rw [e]; exact ly) (by rw [e]; omega) (by rw [e]; omega), e⟩
 obtain ⟨s, hs⟩ : ∃ s, txt L x = s := ⟨_, rfl⟩
 obtain ⟨t, ht⟩ : ∃ t, txt L y = t := ⟨_, rfl⟩
 rw [hs, ht]
 have HS := Lib.hid hs
 have HT := Lib.hid ht
 clear h kx ky lx ly hm hL hs ht
 go_enter Tryz.func21, Tryz.ntmps21
 go_wp2_with fail
 refine C1.out.mono ?_
 rintro e w1 ⟨L1, u, rfl, hm1, hk1, hg1, ku, tu, su⟩
 rw [HS.out] at tu su
 obtain ⟨c2, ey⟩ := C2.out w1 L1 hm1 hg1
 rw [HT.out] at ey
 have CC := Lib.hid c2
 have HM1 := Lib.hid hm1
 have HK1 := Lib.hid hk1
 have HG1 := Lib.hid hg1
 have HSU := Lib.hid su
 have HEY := Lib.hid ey
 have HTU := Lib.hid tu
 clear c2 hm1 hk1 hg1 tu su ey C2 C1
 go_wp2_with fail
 refine CC.out.mono ?_
 rintro e w2 ⟨L2, v, rfl, hm2, hk2, hg2, kv, tv, sv⟩
 have HV : Hid ((u == v) = decide (s = t)) := by
  show _ = _
  rw [HEY.out] at tv sv
  obtain ⟨M, hM⟩ := hg2.gr.ext
  have su2 : Sig L2 s u := by have := hg2.gr.dok; rw [hM] at this ⊢; exact HSU.out.more HM1.out.dok M this
  have tu2 : txt L2 u = s := by rw [hM, txt_append HM1.out.dok M ku]; exact HTU.out
  by_cases h : s = t
  · subst h
    rw [su2.uniq sv]
    simp
  · rw [decide_eq_false h, beq_eq_false_iff_ne]
    intro e
    subst e
    exact h (tu2.symm.trans tv)
 have hv := HV.out
 have HG2 := Lib.hid (HG1.out.trans (k := 2 * s.length + 2 * t.length) hg2 (Nat.le_of_eq (by rw [HS.out, HEY.out])))
 have HK2 := Lib.hid (HK1.out.trans hk2)
 have HM2 := Lib.hid hm2
 clear hm2 hk2 hg2 kv tv sv HV HM1 HK1 HG1 HSU HEY HTU CC
 generalize decide (s = t) = b at *
 go_wp2_with fail
 go_ret2
 exact ⟨L2, rfl, HM2.out, HK2.out, HG2.out⟩
set_option maxRecDepth 100000 in
set_option maxHeartbeats 400000 in
theorem mr_equal {B : Nat} {w : World} {mp kb pp tp p mb : Nat} {most : Int} {L : List Ent} (h : Me B w mp kb pp tp p mb most L) {x y : Int} {s t : List Int} {dx dy : Int} (bx : BalZ L x s dx) (by_ : BalZ L y t dy) (hl : s.length = t.length → s.length ≤ 256) (hm : ((L.length + (2 * s.length + 2 * t.length) : Nat) : Int) ≤ most) (hL : L.length + (2 * s.length + 2 * t.length) ≤ 500000) :
    Calls Tryz.prog 54 #[.pointer (some ⟨mp, 0, none⟩), .int .i64 x, .int .i64 y] w (EqPost B w mp kb pp tp p mb most L (2 * s.length + 2 * t.length) (decide (s = t))) := by
 have lx := bx.len h.dok h.sok
 have ly := by_.len h.dok h.sok
 have tx := bx.text
 have ty := by_.text
 have nx := bx.nil_iff h.dok h.sok
 have ny := by_.nil_iff h.dok h.sok
 have HME := Lib.hid h
 by_cases hxy : x = y
 · subst hxy
   have hst : s = t := tx.symm.trans ty
   subst hst
   have q : decide (s = s) = true := decide_eq_true rfl
   rw [q]
   clear h bx by_ lx ly tx ty nx ny
   go_enter Tryz.func54, Tryz.ntmps54
   go_wp2_with fail
   go_ret2
   exact ⟨L, rfl, HME.out, Kk.refl _ _ _ _, (Gu.refl HME.out.sok HME.out.dok HME.out.uq).le (by omega)⟩
 · have z1 : (x == y) = false := beq_eq_false_iff_ne.2 hxy
   obtain ⟨T, kn, hq⟩ := id h
   have CP := Lib.hid (fun W (hW : Fr0 w W) => cn_Parser (hq.kept0 hW).box)
   have CS := Lib.hid (fun W (hW : Fr0 w W) => sig_Store (hq.kept0 hW).pq)
   have CX := Lib.hid (fun W (hW : Fr0 w W) => sto_Weight (hq.kept0 hW).pq.st x bx.known)
   have CY := Lib.hid (fun W (hW : Fr0 w W) => sto_Weight (hq.kept0 hW).pq.st y by_.known)
   rw [← lx] at CX
   rw [← ly] at CY
   have CQ : Hid (∀ W, Fr0 w W → s.length = t.length → Calls Tryz.prog 21 #[.pointer (some ⟨mp, 0, none⟩), .int .i64 x, .int .i64 y] W (EqPost B W mp kb pp tp p mb most L (2 * s.length + 2 * t.length) (decide (s = t)))) := fun W hW he => by
    have h1 : s ≠ [] := fun e => hxy ((nx.2 e).trans (ny.2 (List.eq_nil_of_length_eq_zero (by rw [← he, e]; rfl))).symm)
    have h2 : t ≠ [] := fun e => h1 (List.eq_nil_of_length_eq_zero (by rw [he, e]; rfl))
    have := cn_Same (h.kept0 hW) bx.known by_.known (fun e => h1 (nx.1 e)) (fun e => h2 (ny.1 e)) (by rw [tx]; exact hl he) (by rw [ty, ← he]; exact hl he) (by rw [tx, ty]; exact hm) (by rw [tx, ty]; exact hL)
    rw [tx, ty] at this
    exact this
   have hgu := (Gu.refl h.sok h.dok h.uq).le (n := 2 * s.length + 2 * t.length) (by omega)
   have HGU := Lib.hid hgu
   generalize (entAt L x).wt = wx at *
   generalize (entAt L y).wt = wy at *
   clear hq h bx by_ lx ly tx ty nx ny hgu hm hL hl
   obtain ⟨bb, hbb⟩ : ∃ bb, decide (s = t) = bb := ⟨_, rfl⟩
   have HBB : Hid (s.length ≠ t.length → bb = false) := fun h => by rw [← hbb]; exact decide_eq_false (fun e => h (by rw [e]))
   rw [hbb] at CQ ⊢
   clear hbb
   generalize s.length = sl at *
   generalize t.length = tl at *
   by_cases he : sl = tl
   · have CQ2 : Hid (∀ W, Fr0 w W → Calls Tryz.prog 21 #[.pointer (some ⟨mp, 0, none⟩), .int .i64 x, .int .i64 y] W (EqPost B W mp kb pp tp p mb most L (2 * sl + 2 * tl) bb)) := fun W hW => CQ.out W hW he
     have z2 : ((sl : Int) == (tl : Int)) = true := by rw [he]; simp
     clear he CQ HBB
     go_enter Tryz.func54, Tryz.ntmps54
     go_wp2_with fail
     refine (CP.out w (Fr0.refl w)).mono ?_
     rintro e w1 ⟨rfl, rfl⟩
     go_wp2_with fail
     refine (CS.out w (Fr0.refl w)).mono ?_
     rintro e w1 ⟨rfl, rfl⟩
     go_wp2_with fail
     refine (CX.out w (Fr0.refl w)).mono ?_
     rintro e w1 ⟨rfl, f1⟩
     go_upto_region 6 with fail
     have F2 : Fr0 w (w1.alloc (.cells #[.int .i64 sl, .int .i64 wx.lines, .int .i64 wx.head, .int .i64 wx.tail, .int .u64 wx.val, .int .u64 wx.scale] 47 (0, 0))) := f1.alloc _
     have b2 := alloc_at w1 (.cells #[.int .i64 sl, .int .i64 wx.lines, .int .i64 wx.head, .int .i64 wx.tail, .int .u64 wx.val, .int .u64 wx.scale] 47 (0, 0)) w1.heap.size rfl
     generalize w1.alloc (.cells #[.int .i64 sl, .int .i64 wx.lines, .int .i64 wx.head, .int .i64 wx.tail, .int .u64 wx.val, .int .u64 wx.scale] 47 (0, 0)) = W2 at *
     generalize w1.heap.size = K2 at *
     have HB2 := Lib.hid b2
     have HF2 := Lib.hid F2
     clear b2 F2 f1
     go_wp2_with fail
     refine (CP.out W2 HF2.out).mono ?_
     rintro e w3 ⟨rfl, rfl⟩
     go_wp2_with fail
     refine (CS.out W2 HF2.out).mono ?_
     rintro e w3 ⟨rfl, rfl⟩
     go_wp2_with fail
     refine (CY.out W2 HF2.out).mono ?_
     rintro e w3 ⟨rfl, f3⟩
     go_upto_region 7 with fail
     have F4 : Fr0 W2 (w3.alloc (.cells #[.int .i64 tl, .int .i64 wy.lines, .int .i64 wy.head, .int .i64 wy.tail, .int .u64 wy.val, .int .u64 wy.scale] 47 (0, 0))) := f3.alloc _
     have b4 := alloc_at w3 (.cells #[.int .i64 tl, .int .i64 wy.lines, .int .i64 wy.head, .int .i64 wy.tail, .int .u64 wy.val, .int .u64 wy.scale] 47 (0, 0)) w3.heap.size rfl
     generalize w3.alloc (.cells #[.int .i64 tl, .int .i64 wy.lines, .int .i64 wy.head, .int .i64 wy.tail, .int .u64 wy.val, .int .u64 wy.scale] 47 (0, 0)) = W4 at *
     generalize w3.heap.size = K4 at *
     obtain ⟨e0, _, _, _, _, _, le, _⟩ := cells6t b4
     obtain ⟨d0, _, _, _, _, _, ld, _⟩ := cells6t (F4.kept HB2.out)
     have HF4 := Lib.hid (HF2.out.trans F4)
     clear b4 F4 f3 HB2 HF2 CP CS CX CY
     go_wp2_with fail
     refine (CQ2.out W4 HF4.out).mono ?_
     rintro e w5 ⟨L5, rfl, hm5, hk5, hg5⟩
     go_wp2_with fail
     go_ret2
     exact ⟨L5, rfl, hm5, (Kk.of0 HF4.out).trans hk5, hg5⟩
   · have z2 : ((sl : Int) == (tl : Int)) = false := beq_eq_false_iff_ne.2 (by omega)
     have hbb := HBB.out he
     subst hbb
     clear he CQ HBB
     go_enter Tryz.func54, Tryz.ntmps54
     go_wp2_with fail
     refine (CP.out w (Fr0.refl w)).mono ?_
     rintro e w1 ⟨rfl, rfl⟩
     go_wp2_with fail
     refine (CS.out w (Fr0.refl w)).mono ?_
     rintro e w1 ⟨rfl, rfl⟩
     go_wp2_with fail
     refine (CX.out w (Fr0.refl w)).mono ?_
     rintro e w1 ⟨rfl, f1⟩
     go_upto_region 6 with fail
     have F2 : Fr0 w (w1.alloc (.cells #[.int .i64 sl, .int .i64 wx.lines, .int .i64 wx.head, .int .i64 wx.tail, .int .u64 wx.val, .int .u64 wx.scale] 47 (0, 0))) := f1.alloc _
     have b2 := alloc_at w1 (.cells #[.int .i64 sl, .int .i64 wx.lines, .int .i64 wx.head, .int .i64 wx.tail, .int .u64 wx.val, .int .u64 wx.scale] 47 (0, 0)) w1.heap.size rfl
     generalize w1.alloc (.cells #[.int .i64 sl, .int .i64 wx.lines, .int .i64 wx.head, .int .i64 wx.tail, .int .u64 wx.val, .int .u64 wx.scale] 47 (0, 0)) = W2 at *
     generalize w1.heap.size = K2 at *
     have HB2 := Lib.hid b2
     have HF2 := Lib.hid F2
     clear b2 F2 f1
     go_wp2_with fail
     refine (CP.out W2 HF2.out).mono ?_
     rintro e w3 ⟨rfl, rfl⟩
     go_wp2_with fail
     refine (CS.out W2 HF2.out).mono ?_
     rintro e w3 ⟨rfl, rfl⟩
     go_wp2_with fail
     refine (CY.out W2 HF2.out).mono ?_
     rintro e w3 ⟨rfl, f3⟩
     go_upto_region 7 with fail
     have F4 : Fr0 W2 (w3.alloc (.cells #[.int .i64 tl, .int .i64 wy.lines, .int .i64 wy.head, .int .i64 wy.tail, .int .u64 wy.val, .int .u64 wy.scale] 47 (0, 0))) := f3.alloc _
     have b4 := alloc_at w3 (.cells #[.int .i64 tl, .int .i64 wy.lines, .int .i64 wy.head, .int .i64 wy.tail, .int .u64 wy.val, .int .u64 wy.scale] 47 (0, 0)) w3.heap.size rfl
     generalize w3.alloc (.cells #[.int .i64 tl, .int .i64 wy.lines, .int .i64 wy.head, .int .i64 wy.tail, .int .u64 wy.val, .int .u64 wy.scale] 47 (0, 0)) = W4 at *
     generalize w3.heap.size = K4 at *
     obtain ⟨e0, _, _, _, _, _, le, _⟩ := cells6t b4
     obtain ⟨d0, _, _, _, _, _, ld, _⟩ := cells6t (F4.kept HB2.out)
     have HF4 := Lib.hid (HF2.out.trans F4)
     clear b4 F4 f3 HB2 HF2 CP CS CX CY
     go_wp2_with fail
     go_ret2
     exact ⟨L, rfl, HME.out.kept0 HF4.out, Kk.of0 HF4.out, HGU.out⟩
end Go.Proofs.YtgldjpldldknoaaGreatDoor
/- The walk of (group).fill. -/
set_option linter.unusedSimpArgs false
set_option linter.unusedVariables false
namespace Go.Proofs.YtgldjpldldknoaaGreatDoor
open Go.RowKit
theorem Me.madeV {S : Nat → Prop} {B : Nat} {w w' : World} {mp kb pp tp p mb : Nat} {most : Int} {L L' : List Ent} {k : Nat} (h : Me B w mp kb pp tp p mb most L) (hS : Sto B w' p mb most L') (hK : Kv S B mb w w') (hg : Grows L L' k) (hb : L'.length ≤ 1000000) (hn : ∀ i, i < w.heap.size → S i → B ≤ i ∧ ∃ cs t f, w.heap[i]? = some (Obj.cells cs t f) ∧ tyM t = false) : Me B w' mp kb pp tp p mb most L' := by
 obtain ⟨T, kn, h⟩ := h
 have nc : ∀ {i : Nat} {cs : Array Value} {t : TypeId} {f : Nat × Nat}, w.heap[i]? = some (Obj.cells cs t f) → tyM t = true → ¬ S i := fun hb ht hs => by
  obtain ⟨_, cs', t', f', h3, h4⟩ := hn _ (lt_of_block hb) hs
  rw [hb] at h3
  cases h3
  rw [ht] at h4
  cases h4
 have nm : ∀ {i : Nat} {es : Array MapEntry} {c : Nat}, w.heap[i]? = some (Obj.map es c) → ¬ S i := fun hb hs => by
  obtain ⟨_, cs', t', f', h3, h4⟩ := hn _ (lt_of_block hb) hs
  rw [hb] at h3
  cases h3
 have hp := h.pq
 obtain ⟨t0, rv, t1, t2⟩ := hp.tab
 obtain ⟨M, hM⟩ := hg.ext
 refine ⟨T, kn, ⟨hS, hK.cells _ _ _ _ hp.par (by decide) (by decide) (nc hp.par (by decide)), hp.new, ⟨t0, rv, hK.cells _ _ _ _ t1 (by decide) (by decide) (nc t1 (by decide)), hK.owns t2 (by decide) (by decide) (fun j hj => ?_)⟩, ?_, ?_, hg.sok, hg.dok, hg.uq hp.uq, Nat.le_trans hp.base hK.size, hp.deb.low (fun i h1 h2 => hK.low i h1 h2 (fun hs => by have := (hn i h2 hs).1; omega)), hb⟩,
  hK.cells _ _ _ _ h.box (by decide) (by decide) (nc h.box (by decide)), hK.maps _ _ _ h.kmap h.ne (nm h.kmap), h.ne, h.low, h.ok.more hp.dok hg⟩
 · obtain ⟨cur, hc⟩ := owns_block t2 hj
   exact nc hc (by decide)
 · have := hg.dok
   rw [hM] at this ⊢
   exact hp.ok.more hp.dok this
 · have := hp.tl
   rw [hM, List.length_append]
   omega
def sdE (t : List Int) (e f : Int) (ps : List PC) : List Int := if ps = [] then [] else sdG t e f ps
theorem mr_sideText {B : Nat} {w : World} {p mb gb : Nat} {most : Int} {L : List Ent} {id f e : Int} {x0 x1 x4 x5 x6 : Value} {base : Nat} {sv : Value} {cs : List Chg} {ps : List PC} {t : List Int} {d : Int} (D : Nat) (hR : Room B w p mb most L (2 * cs.length * (17 * D + 3))) (hg : w.heap[gb]? = some (.cells #[x0, x1, .int .i64 f, .int .i64 e, x4, x5, x6] 73 (0, 0)))
    (hs : w.ownsRow base 55 3 sv cs.length (cs.flatMap Chg.vals)) (hbs : base ≤ w.heap.size) (hb : BalZ L id t d) (htD : t.length < lst (D + 1)) (hP : PChg L cs ps) (hw : within e f ps) (hpw : ps.Pairwise (fun x y => x.at_ + x.n < y.at_)) (hf : 0 ≤ f) (he2 : e ≤ t.length) (htl : t.length ≤ 1000000) (hu : (sdG t e f ps).length < lst (D + 1)) (hul : (sdG t e f ps).length ≤ 1000000) (hl : cs.length ≤ 100000) :
    Calls Tryz.prog 53 #[.pointer (some ⟨p, 0, none⟩), .int .i64 id, .pointer (some ⟨gb, 0, none⟩), sv] w (SdPost B w p mb most L sv (sdE t e f ps) (2 * cs.length * (17 * D + 3))) := by
 have hpl := hP.len
 by_cases h0 : 0 < cs.length
 · have hne : ps ≠ [] := fun e => by rw [e] at hpl; simp at hpl; rw [hpl] at h0; simp at h0
   have hE : sdE t e f ps = sdG t e f ps := if_neg hne
   rw [hE]
   by_cases h1 : cs[0].at_ = f ∧ cs[0].at_ + cs[0].n = e
   · match ps, hne, hP, hw, hpw, hpl with
     | q :: qr, _, hP, hw, hpw, hpl =>
      obtain ⟨e1, e2, dq, hbq⟩ := hP.get 0 h0 (by simp)
      simp only [List.getElem_cons_zero] at e1 e2 hbq
      have hpp := List.pairwise_cons.1 hpw
      obtain ⟨g1, _⟩ := sdG_whole t (f := f) (e := e) (c := q) (r := qr) hw hf (by rw [← e1]; exact h1.1) (by rw [← e1, ← e2]; exact h1.2) hpp.2 hpp.1
      rw [g1]
      exact mr_sideText_whole (hR.less (Nat.zero_le _)) hg hs h0 h1.1 h1.2 hbq hf hw.le (by omega)
   · have hn : (cs.length + 1) * (17 * D + 3) ≤ 2 * cs.length * (17 * D + 3) := Nat.mul_le_mul_right _ (by omega)
     refine (mr_sideText_loop D (hR.less hn) hg hs hbs h0 h1 hb htD hP hw hf he2 htl hu hul hl).mono ?_
     rintro e w' ⟨L', y, dy, k, h1, h2, h3, h4, h5, h6⟩
     exact ⟨L', y, dy, k, h1, h2, h3, h4, Nat.le_trans h5 hn, h6⟩
 · have hc : cs = [] := List.eq_nil_of_length_eq_zero (by omega)
   subst hc
   have hp0 : ps = [] := List.eq_nil_of_length_eq_zero (by rw [← hpl]; rfl)
   subst hp0
   obtain ⟨a, c, hsv⟩ := owns_form hs
   exact mr_sideText_nil (hR.less (Nat.zero_le _)) hsv
structure GmF (w : World) (z : Gm) (t : List Int) (L : List Ent) (h : Grp PC) (x y : Int) : Prop where
 box : w.heap[z.gb]? = some (.cells #[z.lv, z.rv, .int .i64 z.g.at_, .int .i64 z.g.end_, .int .i64 x, .int .i64 y, .bool (isC t h)] 73 (0, 0))
 lv : ∃ a c, z.lv = .slice a h.left.length c
 rv : ∃ a c, z.rv = .slice a h.right.length c
 bx : ∃ d, BalZ L x (sdE t h.end_ h.at_ h.left) d
 by_ : ∃ d, BalZ L y (sdE t h.end_ h.at_ h.right) d
 at_ : z.g.at_ = h.at_
 end_ : z.g.end_ = h.end_
def Sf (kb : Nat) (z : Gm) (k : Nat) : Prop := k = kb ∨ k = z.gb ∨ z.lv.ownBlock = some k ∨ z.rv.ownBlock = some k
theorem sf_cells {B : Nat} {w : World} {z : Gm} (hz : GmD w z) (hB : B ≤ z.lo) : ∀ i, (z.gb = i ∨ z.lv.ownBlock = some i ∨ z.rv.ownBlock = some i) → B ≤ i ∧ ∃ cs t f, w.heap[i]? = some (Obj.cells cs t f) ∧ tyM t = false := by
 intro i hi
 rcases hi with e | e | e
 · subst e
   exact ⟨Nat.le_trans hB hz.lo, _, _, _, hz.box, by decide⟩
 · obtain ⟨cur, hc⟩ := owns_block hz.lr e
   exact ⟨Nat.le_trans hB (hz.lr.lt i e).1, _, _, _, hc, by decide⟩
 · obtain ⟨cur, hc⟩ := owns_block hz.rr e
   exact ⟨Nat.le_trans hB (hz.rr.lt i e).1, _, _, _, hc, by decide⟩
theorem fill_step {B lo : Nat} {w w1 : World} {mp kb pp tp p mb gb i : Nat} {most : Int} {L L1 : List Ent} {k1 : Nat} {cs : Array Value} {sv u : Value} {n : Nat} {xs : List Value} (hm : Me B w mp kb pp tp p mb most L) (hb : w.heap[gb]? = some (.cells cs 73 (0, 0))) (hs : w.ownsRow lo 55 3 sv n xs) (hlo : B ≤ lo) (hgb : lo ≤ gb) (hS : Sto B w1 p mb most L1) (hK : Kv (fun j => sv.ownBlock = some j) B mb w w1) (hg : Grows L L1 k1) (hL : L1.length ≤ 1000000) :
    w1.heap[gb]? = some (.cells cs 73 (0, 0)) ∧ Me B (w1.setCell ⟨gb, i, none⟩ u) mp kb pp tp p mb most L1 ∧ (w1.setCell ⟨gb, i, none⟩ u).heap[gb]? = some (.cells (cs.setIfInBounds i u) 73 (0, 0)) ∧ Ks (fun k => k = gb ∨ sv.ownBlock = some k) B mb w (w1.setCell ⟨gb, i, none⟩ u) := by
 have h1 : w1.heap[gb]? = some (.cells cs 73 (0, 0)) := hK.cells _ _ _ _ hb (by decide) (by decide) (fun e => by
  obtain ⟨cur, hc⟩ := owns_block hs e
  rw [hb] at hc
  cases hc)
 have hm1 : Me B w1 mp kb pp tp p mb most L1 := hm.madeV hS hK hg hL (fun j hj e => by
  obtain ⟨cur, hc⟩ := owns_block hs e
  exact ⟨Nat.le_trans hlo (hs.lt j e).1, _, _, _, hc, by decide⟩)
 have hF : Fr (fun k => k = gb) w1 (w1.setCell ⟨gb, i, none⟩ u) := Fr.setCell (Fr.refl _ w1) _ _ (fun _ => rfl)
 refine ⟨h1, hm1.fr hF (fun j hj e => by subst e; exact ⟨Nat.le_trans hlo hgb, _, _, _, h1, by decide⟩), setCell_block h1 i u, ?_⟩
 exact Ks.fr (hK.ks (fun j _ e => .inr e)) hF (fun j _ e => .inl e)
theorem fill_row {S : Nat → Prop} {B mb lo lo' : Nat} {w w1 : World} {sv ov : Value} {n m : Nat} {xs ys : List Value} {gb i : Nat} {u : Value} {cs : Array Value} (hs : w.ownsRow lo 55 3 ov m ys) (hK : Kv (fun j => sv.ownBlock = some j) B mb w w1) (ap : ∀ k, ov.ownBlock = some k → sv.ownBlock ≠ some k) (hb : w1.heap[gb]? = some (.cells cs 73 (0, 0))) : (w1.setCell ⟨gb, i, none⟩ u).ownsRow lo 55 3 ov m ys := by
 have h1 := hK.owns hs (by decide) (by decide) (fun k hk e => ap k hk e)
 have hF : Fr (fun k => k = gb) w1 (w1.setCell ⟨gb, i, none⟩ u) := Fr.setCell (Fr.refl _ w1) _ _ (fun _ => rfl)
 refine hF.owns h1 (fun k hk e => ?_)
 obtain ⟨cur, hc⟩ := owns_block h1 hk
 rw [e, hb] at hc
 cases hc
set_option maxRecDepth 100000 in
set_option maxHeartbeats 4000000 in
theorem mr_fill (D : Nat) {B : Nat} {w : World} {mp kb pp tp p mb : Nat} {most : Int} {L : List Ent} {z : Gm} {h : Grp PC} {id : Int} {t : List Int} {d : Int} {N E : Nat} (hm : Me B w mp kb pp tp p mb most L) (hz : GmD w z) (hzB : B ≤ z.lo) (hr : GRel L z.g h) (hb : BalZ L id t d)
    (hin : 0 ≤ h.at_ ∧ h.at_ ≤ h.end_ ∧ h.end_ ≤ t.length ∧ within h.end_ h.at_ h.left ∧ within h.end_ h.at_ h.right) (hpl : h.left.Pairwise (fun x y => x.at_ + x.n < y.at_)) (hpr : h.right.Pairwise (fun x y => x.at_ + x.n < y.at_)) (htl : t.length ≤ 600) (hD : 600 < lst (D + 1))
    (hsl : (sdl t h).length ≤ 600) (hsr : (sdr t h).length ≤ 600) (hsh : (sdl t h).length = (sdr t h).length → (sdl t h).length ≤ 256) (hE : h.left ≠ [] → h.right ≠ [] → 2 * (sdl t h).length + 2 * (sdr t h).length ≤ E) (hN : N = 2 * z.g.left.length * (17 * D + 3) + 2 * z.g.right.length * (17 * D + 3) + E) (hmost : ((L.length + N : Nat) : Int) ≤ most) (hL : L.length + N ≤ 500000) (hll : z.g.left.length ≤ 100000) (hrl : z.g.right.length ≤ 100000) :
    Calls Tryz.prog 38 #[.pointer (some ⟨z.gb, 0, none⟩), .pointer (some ⟨mp, 0, none⟩), .int .i64 id] w fun e w' => ∃ L' x y, e = .returned .nilIface ∧ Me B w' mp kb pp tp p mb most L' ∧ Ks (Sf kb z) B mb w w' ∧ Gu L L' N ∧ GmF w' z t L' h x y := by
 have hmq := hm
 obtain ⟨T, kn, hq⟩ := hmq
 have CP := Lib.hid (cn_Parser hq.box)
 have CS := Lib.hid (sig_Store hq.pq)
 have hbase := hm.base
 have hlo2 : z.lo ≤ w.heap.size := by have := hz.lo; have := lt_of_block hz.box; omega
 have hlenl := hr.left.len
 have hlenr := hr.right.len
 have HSC := Lib.hid (sf_cells hz hzB)
 have hgat := hr.at_
 have hgend := hr.end_
 obtain ⟨NL, hNL⟩ : ∃ NL, 2 * z.g.left.length * (17 * D + 3) = NL := ⟨_, rfl⟩
 obtain ⟨NR, hNR⟩ : ∃ NR, 2 * z.g.right.length * (17 * D + 3) = NR := ⟨_, rfl⟩
 rw [hNL, hNR] at hN
 have C1 := Lib.hid (mr_sideText D (hm.room (n := 2 * z.g.left.length * (17 * D + 3)) (by rw [hNL]; omega) (by rw [hNL]; omega)) hz.box hz.lr hlo2 hb (by omega) hr.left (by rw [hgat, hgend]; exact hin.2.2.2.1) hpl (by rw [hgat]; exact hin.1) (by rw [hgend]; exact hin.2.2.1) (by omega) (by rw [hgat, hgend]; have : (sdG t h.end_ h.at_ h.left).length ≤ 600 := hsl; omega) (by rw [hgat, hgend]; have : (sdG t h.end_ h.at_ h.left).length ≤ 600 := hsl; omega) hll)
 rw [hNL] at C1
 have C2 : Hid (∀ W L' x4, Me B W mp kb pp tp p mb most L' → L'.length ≤ L.length + NL → Gu L L' NL → W.heap[z.gb]? = some (.cells #[z.lv, z.rv, .int .i64 z.g.at_, .int .i64 z.g.end_, x4, .int .i64 0, .bool false] 73 (0, 0)) → W.ownsRow z.lo 55 3 z.rv z.g.right.length (z.g.right.flatMap Chg.vals) → w.heap.size ≤ W.heap.size → Calls Tryz.prog 53 #[.pointer (some ⟨p, 0, none⟩), .int .i64 id, .pointer (some ⟨z.gb, 0, none⟩), z.rv] W (SdPost B W p mb most L' z.rv (sdE t z.g.end_ z.g.at_ h.right) NR)) := fun W L' x4 hW hl hg hbx ho hs => by
  have := mr_sideText D (hW.room (n := 2 * z.g.right.length * (17 * D + 3)) (by rw [hNR]; omega) (by rw [hNR]; omega)) hbx ho (by omega) (hg.gr.balz hm.dok hb) (by omega) (hr.right.more hg.gr hm.dok) (by rw [hgat, hgend]; exact hin.2.2.2.2) hpr (by rw [hgat]; exact hin.1) (by rw [hgend]; exact hin.2.2.1) (by omega) (by rw [hgat, hgend]; have : (sdG t h.end_ h.at_ h.right).length ≤ 600 := hsr; omega) (by rw [hgat, hgend]; have : (sdG t h.end_ h.at_ h.right).length ≤ 600 := hsr; omega) hrl
  rw [hNR] at this
  exact this
 have HME := Lib.hid hm
 have HZ := Lib.hid hz
 have HIN := Lib.hid hin
 have HSH := Lib.hid hsh
 have HE := Lib.hid hE
 have HGU := Lib.hid (fun L' n (g : Grows L L' n) => (⟨g, g.uq hm.uq⟩ : Gu L L' n))
 have HDK := Lib.hid hm.dok
 obtain ⟨lo, hi, gb, lv, rv, g⟩ := z
 dsimp only at *
 obtain ⟨la, lc, hlv⟩ := owns_form hz.lr
 obtain ⟨ra, rc, hrv⟩ := owns_form hz.rr
 dsimp only at hlv hrv
 subst hlv hrv
 obtain ⟨ga, ge, gl, gr⟩ := g
 dsimp only at *
 obtain ⟨c0, c1, cf, lmp⟩ := cells2 hq.box
 obtain ⟨m0, m1, m2, m3, m4, m5, m6, lm, mf⟩ := cells7 hz.box
 dsimp only at m0 m1 m2 m3 m4 m5 m6 lm mf
 clear hm hz hr hb hin hpl hpr hsl hsr hsh hE hq hNL hNR
 have HPL := Lib.hid hlenl
 have HPR := Lib.hid hlenr
 have hfx := Lib.hid hgat
 have hfe := Lib.hid hgend
 clear hlenl hlenr hgat hgend
 go_enter Tryz.func38, Tryz.ntmps38
 go_wp2_with fail
 refine CP.out.mono ?_
 rintro e w1 ⟨rfl, rfl⟩
 go_wp2_with fail
 refine CS.out.mono ?_
 rintro e w1 ⟨rfl, rfl⟩
 go_wp2_with fail
 refine C1.out.mono ?_
 rintro e w1 ⟨L1, x, dx, k1, rfl, hS1, hK1, hg1, hk1, hb1⟩
 have hl1 := hg1.len
 obtain ⟨q1, q2, q3, q4⟩ := fill_step (i := 4) (u := .int .i64 x) HME.out HZ.out.box HZ.out.lr hzB HZ.out.lo hS1 hK1 hg1 (by omega)
 have q5 := fill_row (S := fun _ => True) (sv := .slice la gl.length lc) (i := 4) (u := .int .i64 x) (lo' := 0) (n := 0) (xs := []) HZ.out.rr hK1 (fun k hk e => HZ.out.ap k e hk) q1
 have HG1 := Lib.hid (HGU.out L1 NL (hg1.le hk1))
 have C2' := Lib.hid (C2.out _ L1 (.int .i64 x) q2 (by omega) HG1.out q3 q5 q4.size)
 obtain ⟨m0, m1, m2, m3, m4, m5, m6, lm, mf⟩ := cells7 q1
 have HB1 := Lib.hid hb1
 have HQ2 := Lib.hid q2
 have HQ3 := Lib.hid q3
 have HQ4 := Lib.hid q4
 have HQ5 := Lib.hid q5
 clear hS1 hK1 hg1 hk1 hb1 q1 q2 q3 q4 q5 C1 C2 CP CS
 go_upto_region 6 with fail
 generalize w1.setCell ⟨gb, 4, none⟩ (.int .i64 x) = W1 at *
 have h3 := HQ3.out
 simp only [List.setIfInBounds_toArray, List.set_cons_zero, List.set_cons_succ] at h3
 obtain ⟨m0, m1, m2, m3, m4, m5, m6, lm, mf⟩ := cells7 h3
 have HB3 := Lib.hid h3
 clear h3 HQ3
 go_wp2_with fail
 refine C2'.out.mono ?_
 rintro e w2 ⟨L2, y, dy, k2, rfl, hS2, hK2, hg2, hk2, hb2⟩
 have hl1 := HG1.out.gr.len
 have hl2 := hg2.len
 obtain ⟨q1, q2, q3, q4⟩ := fill_step (i := 5) (u := .int .i64 y) HQ2.out HB3.out HQ5.out hzB HZ.out.lo hS2 hK2 hg2 (by omega)
 have hD1 := HG1.out.gr.dok
 have HG2 := Lib.hid (HG1.out.trans (k := NL + NR) ⟨hg2, hg2.uq HG1.out.uq⟩ (by omega))
 have HX2 : Hid (∃ d, BalZ L2 x (sdE t h.end_ h.at_ h.left) d) := ⟨dx, by have := hg2.balz hD1 HB1.out; rw [hfx.out, hfe.out] at this; exact this⟩
 have HY2 : Hid (∃ d, BalZ L2 y (sdE t h.end_ h.at_ h.right) d) := ⟨dy, by have := hb2; rw [hfx.out, hfe.out] at this; exact this⟩
 have HK2 : Hid (Ks (Sf kb ⟨lo, hi, gb, .slice la gl.length lc, .slice ra gr.length rc, ⟨ga, ge, gl, gr⟩⟩) B mb w (w2.setCell ⟨gb, 5, none⟩ (.int .i64 y))) :=
  Ks.trans (Ks.weak HQ4.out (fun j _ e => by
   rcases e with e | e
   · exact .inr (.inl e)
   · exact .inr (.inr (.inl e)))) (Ks.weak q4 (fun j _ e => by
   rcases e with e | e
   · exact .inr (.inl e)
   · exact .inr (.inr (.inr e))))
 obtain ⟨m0, m1, m2, m3, m4, m5, m6, lm, mf⟩ := cells7 q1
 have HQ6 := Lib.hid q2
 have HQ7 := Lib.hid q3
 clear hS2 hK2 hg2 hk2 hb2 q1 q2 q3 q4 C2' HQ2 HQ4 HQ5 HB1 HB3 hD1
 go_upto_region 9 with fail
 generalize w2.setCell ⟨gb, 5, none⟩ (.int .i64 y) = W2 at *
 have h3 := HQ7.out
 simp only [List.setIfInBounds_toArray, List.set_cons_zero, List.set_cons_succ] at h3
 obtain ⟨m0, m1, m2, m3, m4, m5, m6, lm, mf⟩ := cells7 h3
 have HB3 := Lib.hid h3
 have HLV : Hid (∃ a c, (Value.slice la gl.length lc) = .slice a h.left.length c) := ⟨la, lc, by rw [HPL.out]⟩
 have HRV : Hid (∃ a c, (Value.slice ra gr.length rc) = .slice a h.right.length c) := ⟨ra, rc, by rw [HPR.out]⟩
 clear h3 HQ7
 by_cases hc : gl.length = 0 ∨ gr.length = 0
 · have hfa : Hid (isC t h = false) := by
     show _ = _
     unfold isC
     rcases hc with hc | hc
     · have : h.left = [] := List.eq_nil_of_length_eq_zero (by rw [← HPL.out]; exact hc)
       simp [this]
     · have : h.right = [] := List.eq_nil_of_length_eq_zero (by rw [← HPR.out]; exact hc)
       simp [this]
   have HGF : Hid (GmF W2 ⟨lo, hi, gb, .slice la gl.length lc, .slice ra gr.length rc, ⟨ga, ge, gl, gr⟩⟩ t L2 h x y) :=
    ⟨by rw [hfa.out]; exact HB3.out, HLV.out, HRV.out, HX2.out, HY2.out, hfx.out, hfe.out⟩
   clear hfa HX2 HY2 HB3 HLV HRV HPL HPR
   by_cases h1 : gl.length = 0
   · have h3 : ((gl.length : Int) == 0) = true := by rw [h1]; rfl
     clear hc h1
     go_wp2_with fail
     go_ret
     exact ⟨L2, x, y, rfl, HQ6.out, HK2.out, HG2.out.le (by omega), HGF.out⟩
   · have h2 : gr.length = 0 := by omega
     have h3 : ((gl.length : Int) == 0) = false := beq_eq_false_iff_ne.2 (by omega)
     have h4 : ((gr.length : Int) == 0) = true := by rw [h2]; rfl
     clear hc h1 h2
     go_wp2_with fail
     go_ret
     exact ⟨L2, x, y, rfl, HQ6.out, HK2.out, HG2.out.le (by omega), HGF.out⟩
 · have hln : h.left ≠ [] := fun e => hc (.inl (by rw [HPL.out, e]; rfl))
   have hrn : h.right ≠ [] := fun e => hc (.inr (by rw [HPR.out, e]; rfl))
   have eL : sdE t h.end_ h.at_ h.left = sdl t h := if_neg hln
   have eR : sdE t h.end_ h.at_ h.right = sdr t h := if_neg hrn
   have eC : isC t h = !decide (sdl t h = sdr t h) := by
    unfold isC
    simp [hln, hrn]
   obtain ⟨d1, hx2⟩ := HX2.out
   obtain ⟨d2, hy2⟩ := HY2.out
   rw [eL] at hx2
   rw [eR] at hy2
   have hg2l := HG2.out.gr.len
   have hee := HE.out hln hrn
   have CE := Lib.hid (fun W (hW : Fr0 W2 W) => mr_equal (HQ6.out.kept0 hW) hx2 hy2 HSH.out (by omega) (by omega))
   have n1 : ((gl.length : Int) == 0) = false := beq_eq_false_iff_ne.2 (by omega)
   have n2 : ((gr.length : Int) == 0) = false := beq_eq_false_iff_ne.2 (by omega)
   obtain ⟨bb, hbb⟩ : ∃ bb, decide (sdl t h = sdr t h) = bb := ⟨_, rfl⟩
   rw [hbb] at CE eC
   have HEC := Lib.hid eC
   have HKB : Hid (gb ≠ kb) := fun e => by
    obtain ⟨T, kn, hq⟩ := HQ6.out
    have := hq.kmap
    rw [← e, HB3.out] at this
    cases this
   clear hln hrn eL eR eC hbb hx2 hy2 hc hl1 hl2
   go_upto_region 11 with fail
   go_cut [9, 8] (fun u9 u8 wx => u9 = .bool bb ∧ u8 = .nilIface ∧ ∃ L3, Me B wx mp kb pp tp p mb most L3 ∧ Kk B mb kb W2 wx ∧ Gu L2 L3 E)
   case first =>
    clear HX2 HY2 HG2 HK2 HLV HRV HEC HSC HME HZ
    go_region_held3 (fun w' => w'.cell? ⟨gb, 4, none⟩ = some (.int .i64 x) ∧ w'.cell? ⟨gb, 5, none⟩ = some (.int .i64 y))
     (first | (go_keep; done) | exact ⟨by rw [HKF.1]; assumption, by rw [HKF.2]; assumption⟩)
     ((go_at_call 54; (with_reducible refine Calls.mono (CE.out _ (by first | exact Fr0.refl _ | exact (Fr0.refl _).drew)) ?_); rintro e w5 ⟨L3, rfl, hm3, hk3, hg3⟩; have HKF : w5.cell? ⟨gb, 4, none⟩ = some (.int .i64 x) ∧ w5.cell? ⟨gb, 5, none⟩ = some (.int .i64 y) := (by obtain ⟨_, _, _, _, r4, r5, _, _, _⟩ := cells7 (hk3.cells _ _ _ _ HB3.out (by decide) (fun e => HKB.out e)); exact ⟨r4, r5⟩)))
    all_goals
     have HM3 := Lib.hid hm3
     have HK3 : Hid (Kk B mb kb W2 w5) := (by first | exact hk3 | exact (Kk.of0 (Fr0.refl _).drew).trans hk3)
     have HG3 := Lib.hid (hg3.le (n := E) hee)
     clear hm3 hk3 hg3
     go_wp2_with fail
     go_meet
     exact ⟨rfl, rfl, L3, HM3.out, HK3.out, HG3.out⟩
   case rest =>
   obtain ⟨rfl, rfl, L3, hm3, hk3, hg3⟩ := hcut
   rename World => W3
   have h3 := hk3.cells _ _ _ _ HB3.out (by decide) (fun e => HKB.out e)
   obtain ⟨m0, m1, m2, m3, m4, m5, m6, lm, mf⟩ := cells7 h3
   have hF3 : Fr (fun k => k = gb) W3 (W3.setCell ⟨gb, 6, none⟩ (.bool (!bb))) := Fr.setCell (Fr.refl _ W3) _ _ (fun _ => rfl)
   have hB3 := setCell_block h3 6 (.bool (!bb))
   simp only [List.setIfInBounds_toArray, List.set_cons_zero, List.set_cons_succ] at hB3
   have hdk := HG2.out.gr.dok
   have HGF : Hid (GmF (W3.setCell ⟨gb, 6, none⟩ (.bool (!bb))) ⟨lo, hi, gb, .slice la gl.length lc, .slice ra gr.length rc, ⟨ga, ge, gl, gr⟩⟩ t L3 h x y) :=
    ⟨by rw [HEC.out]; exact hB3, HLV.out, HRV.out, (by obtain ⟨d1, hx⟩ := HX2.out; exact ⟨d1, hg3.gr.balz hdk hx⟩), (by obtain ⟨d2, hy⟩ := HY2.out; exact ⟨d2, hg3.gr.balz hdk hy⟩), hfx.out, hfe.out⟩
   have HM4 := Lib.hid (hm3.fr hF3 (fun j hj e => by subst e; exact ⟨Nat.le_trans hzB HZ.out.lo, _, _, _, h3, by decide⟩))
   have HK4 := Lib.hid (HK2.out.trans (Ks.fr (Ks.weak hk3 (fun j _ e => .inl e)) hF3 (fun j _ e => .inr (.inl e))))
   have HG4 := Lib.hid (HG2.out.trans (k := N) hg3 (by omega))
   clear h3 hF3 hB3 hdk hm3 hk3 hg3 HX2 HY2 HLV HRV HG2 HK2 HB3
   go_wp2_with fail
   go_ret
   exact ⟨L3, x, y, rfl, HM4.out, HK4.out, HG4.out, HGF.out⟩
end Go.Proofs.YtgldjpldldknoaaGreatDoor
/- Memo.Of and Memo.Same at the ID 0, and Same of two IDs of one short text. -/
set_option linter.unusedSimpArgs false
set_option linter.unusedVariables false
namespace Go.Proofs.YtgldjpldldknoaaGreatDoor
open Go.RowKit
set_option maxRecDepth 100000 in
set_option maxHeartbeats 400000 in
theorem cn_Of0 {B : Nat} {w : World} {mp kb pp tp p mb : Nat} {most : Int} {L : List Ent} (h : Me B w mp kb pp tp p mb most L) :
    Calls Tryz.prog 39 #[.pointer (some ⟨mp, 0, none⟩), .int .i64 0] w fun e w' => e = .returned (.tuple #[.int .i64 0, .nilIface]) ∧ w = w' := by
 obtain ⟨T, kn, h⟩ := h
 obtain ⟨c0, c1, cf, lm⟩ := cells2 h.box
 have CS := Lib.hid (sig_Store h.pq)
 have CL := Lib.hid (sto_LenR h.pq.st)
 have z2 : decide ((L.length : Int) < 0) = false := decide_eq_false (by omega)
 clear h
 go_enter Tryz.func39, Tryz.ntmps39
 go_wp2_with fail
 refine CS.out.mono ?_
 rintro e w1 ⟨rfl, rfl⟩
 go_wp2_with fail
 refine CS.out.mono ?_
 rintro e w1 ⟨rfl, rfl⟩
 go_wp2_with fail
 refine CL.out.mono ?_
 rintro e w1 ⟨rfl, rfl⟩
 clear CS CL
 go_wp2_with fail
 go_ret2
 exact ⟨rfl, rfl⟩
set_option maxRecDepth 100000 in
set_option maxHeartbeats 400000 in
theorem cn_Same0 {B : Nat} {w : World} {mp kb pp tp p mb : Nat} {most : Int} {L : List Ent} (h : Me B w mp kb pp tp p mb most L) :
    Calls Tryz.prog 21 #[.pointer (some ⟨mp, 0, none⟩), .int .i64 0, .int .i64 0] w fun e w' => e = .returned (.tuple #[.bool true, .nilIface]) ∧ w = w' := by
 have C := Lib.hid (cn_Of0 h)
 clear h
 go_enter Tryz.func21, Tryz.ntmps21
 go_wp2_with fail
 refine C.out.mono ?_
 rintro e w1 ⟨rfl, rfl⟩
 go_wp2_with fail
 refine C.out.mono ?_
 rintro e w1 ⟨rfl, rfl⟩
 go_wp2_with fail
 go_ret2
 exact ⟨rfl, rfl⟩
theorem cn_SameT {B : Nat} {w : World} {mp kb pp tp p mb : Nat} {most : Int} {L : List Ent} (h : Me B w mp kb pp tp p mb most L) {x y : Int} {t : List Int} {dx dy : Int} (bx : BalZ L x t dx) (by_ : BalZ L y t dy) (hl : t.length ≤ 256) (hm : ((L.length + 4 * t.length : Nat) : Int) ≤ most) (hL : L.length + 4 * t.length ≤ 500000) :
    Calls Tryz.prog 21 #[.pointer (some ⟨mp, 0, none⟩), .int .i64 x, .int .i64 y] w (EqPost B w mp kb pp tp p mb most L (4 * t.length) true) := by
 have nx := bx.nil_iff h.dok h.sok
 have ny := by_.nil_iff h.dok h.sok
 have tx := bx.text
 have ty := by_.text
 by_cases ht : t = []
 · obtain rfl : x = 0 := nx.2 ht
   obtain rfl : y = 0 := ny.2 ht
   refine (cn_Same0 h).mono ?_
   rintro e w' ⟨rfl, rfl⟩
   exact ⟨L, rfl, h, Kk.refl _ _ _ _, (Gu.refl h.sok h.dok h.uq).le (Nat.zero_le _)⟩
 · have e4 : 2 * t.length + 2 * t.length = 4 * t.length := by omega
   have := cn_Same h bx.known by_.known (fun e => ht (nx.1 e)) (fun e => ht (ny.1 e)) (by rw [tx]; exact hl) (by rw [ty]; exact hl) (by rw [tx, ty, e4]; exact hm) (by rw [tx, ty, e4]; exact hL)
   rw [tx, ty, e4, decide_eq_true rfl] at this
   exact this
end Go.Proofs.YtgldjpldldknoaaGreatDoor

/- The walks of the law's cut and two. -/
import Derived.Test.YtodmpcnpedpheaaDoorQPa1
set_option linter.unusedSimpArgs false
set_option linter.unusedVariables false
namespace Go.Proofs.YtodmpcnpedpheaaDoor
open Go.RowKit

theorem sbs_cut (s : ByteArray) (n : Nat) (h : n ≤ s.size) : sbs (s.extract 0 n) = (sbs s).take n := by
  unfold sbs
  rw [← List.map_take]
  congr 1
  have : (s.extract 0 n).data = s.data.extract 0 n := ByteArray.data_extract
  rw [this]
  simp

set_option maxRecDepth 100000 in
theorem law_cut (s : ByteArray) (n : Nat) (hn : n ≤ 1000) (w : World) :
    Calls Tryd.prog 6 #[.string s, .int .i64 n] w fun e w' => ∃ t, e = .returned (.string t) ∧ sbs t = (sbs s).take n ∧ w = w' := by
  by_cases h : (s.size : Int) ≤ (n : Int)
  · have e : (sbs s).take n = sbs s := List.take_of_length_le (by rw [sbs_len]; omega)
    rw [e]
    clear e
    go_enter Tryd.func6, Tryd.ntmps6
    go_wp2_with fail
    go_ret
    exact ⟨s, rfl, rfl, rfl⟩
  · have q1 : (n : Int) ≤ (s.size : Int) := by omega
    have e := sbs_cut s n (by omega)
    rw [← e]
    clear e
    go_enter Tryd.func6, Tryd.ntmps6
    go_wp2_with fail
    go_ret
    exact ⟨_, rfl, rfl, rfl⟩

/-- A signature of any short text. -/
def OfZ (B : Nat) (w : World) (pp tp p mb : Nat) (most : Int) (L : List Ent) (bs : List Int) (e : Ending) (w' : World) : Prop :=
  ∃ L' T' id, e = .returned (.tuple #[.int .i64 id, .nilIface]) ∧ Pq B w' pp tp p mb most L' T' ∧ Kx B mb w w' ∧ Gu L L' (2 * bs.length) ∧ SigOk L' id ∧ txt L' id = bs

theorem sig_OfZ {B : Nat} {w : World} {pp tp p mb : Nat} {most : Int} {L : List Ent} {T : List KRow} {bb cap : Nat} {bs : List Int} (h : Pq B w pp tp p mb most L T) (hI : RowC w bb .u8 bs) (hbb : ∃ cs t f, w.heap[bb]? = some (Obj.cells cs t f) ∧ tyP t = false) (hb : ∀ b ∈ bs, 0 ≤ b ∧ b < 256) (hn : bs.length ≤ 65536) (hm : ((L.length + 2 * bs.length : Nat) : Int) ≤ most) (hL : L.length + 2 * bs.length ≤ 500000) :
    Calls Tryd.prog 16 #[.pointer (some ⟨pp, 0, none⟩), .slice (some ⟨bb, 0, none⟩) bs.length cap] w (OfZ B w pp tp p mb most L bs) := by
  by_cases h0 : bs = []
  · subst h0
    refine (sig_Of_nil (c := cap) (a := some ⟨bb, 0, none⟩) h).mono ?_
    rintro e w' ⟨rfl, rfl⟩
    exact ⟨L, T, 0, rfl, h, Ks.refl _ _ _ _, (Gu.refl h.sok h.dok h.uq).le (by simp), ⟨⟨by omega, by omega⟩, .inl rfl⟩, txt_zero L⟩
  · refine (sig_Of (cap := cap) h hI hbb hb h0 hn hm hL).mono ?_
    rintro e w' ⟨L', T', id, rfl, hp, hk, hg, hkn, hne, ht, hl⟩
    exact ⟨L', T', id, rfl, hp, hk, hg, ⟨hkn, .inr hl⟩, ht⟩

theorem rowC_bytes {w : World} {bb : Nat} {bs : List Int} (h : BytesAt w bb 0 bs) : RowC w bb .u8 bs := by
  obtain ⟨cur, fr, h1, h2⟩ := h.blk
  refine ⟨lt_of_block h1, fun i hi => ?_⟩
  rw [cell_of_block h1, ← h2 i hi, Nat.zero_add]

set_option maxRecDepth 100000 in
set_option maxHeartbeats 4000000 in
theorem law_two {B : Nat} {w : World} {pp tp p mb : Nat} {most : Int} {L : List Ent} {T : List KRow} (h : Pq B w pp tp p mb most L T) (a b : ByteArray) (ha : a.size ≤ 1000) (hb : b.size ≤ 1000) (hL : L.length ≤ 100000) (hm : 200000 ≤ most) :
    Calls Tryd.prog 7 #[.pointer (some ⟨pp, 0, none⟩), .string a, .string b] w fun e w' => ∃ L' T' x y, e = .returned (.tuple #[.int .i64 x, .int .i64 y, .bool true]) ∧ Pq B w' pp tp p mb most L' T' ∧ Kx B mb w w' ∧ Gu L L' (2 * (a.size + b.size)) ∧ SigOk L' x ∧ SigOk L' y ∧ txt L' x = sbs a ∧ txt L' y = sbs b := by
  obtain ⟨capa, fa, hca, hca2, hca3⟩ := conv_bytes w a
  have HP := Lib.hid h
  have F1 : Fr0 w (w.alloc (.cells (bytesRow a capa) 5 fa)).drew := ((Fr0.refl w).alloc _).drew
  have CA := Lib.hid (sig_OfZ (cap := capa) (bs := sbs a) (h.kept0 F1) (rowC_bytes (bytes_convH w w.heap.size rfl a capa fa)) ⟨_, _, _, alloc_at w _ _ rfl, by decide⟩ (sbs_rng a) (by rw [sbs_len]; omega) (by rw [sbs_len]; omega) (by rw [sbs_len]; omega))
  rw [sbs_len] at CA
  clear h
  go_enter Tryd.func7, Tryd.ntmps7
  go_wp2_with fail
  refine CA.out.mono ?_
  rintro e w1 ⟨L1, T1, x, rfl, hp1, hx1, hg1, hsx, ex⟩
  rw [sbs_len] at hg1
  have HX1 := Lib.hid (Ks.trans (Ks.of0 F1) hx1)
  have HG1 := Lib.hid hg1
  have hl1 := hg1.gr.len
  obtain ⟨capb, fb, hcb, hcb2, hcb3⟩ := conv_bytes w1 b
  have F2 : Fr0 w1 (w1.alloc (.cells (bytesRow b capb) 5 fb)).drew := ((Fr0.refl w1).alloc _).drew
  have CB := Lib.hid (sig_OfZ (cap := capb) (bs := sbs b) (hp1.kept0 F2) (rowC_bytes (bytes_convH w1 w1.heap.size rfl b capb fb)) ⟨_, _, _, alloc_at w1 _ _ rfl, by decide⟩ (sbs_rng b) (by rw [sbs_len]; omega) (by rw [sbs_len]; omega) (by rw [sbs_len]; omega))
  rw [sbs_len] at CB
  have HF2 := Lib.hid F2
  have hd1 := hp1.dok
  clear hp1 hx1 hg1 CA F1 F2 HP hca
  go_wp2_with fail
  refine CB.out.mono ?_
  rintro e w2 ⟨L2, T2, y, rfl, hp2, hx2, hg2, hsy, ey⟩
  rw [sbs_len] at hg2
  obtain ⟨hsx2, ex2⟩ := hsx.more hd1 hg2
  rw [ex] at ex2
  have HP2 := Lib.hid hp2
  have HX2 := Lib.hid (Ks.trans HX1.out (Ks.trans (Ks.of0 HF2.out) hx2))
  have HG2 := Lib.hid (HG1.out.trans hg2 (show 2 * a.size + 2 * b.size ≤ 2 * (a.size + b.size) by omega))
  clear hp2 hx2 hg2 CB hcb
  go_upto_region 3 with fail
  go_quiet (fail)
  go_wp2_with fail
  refine bodyPost_ret (v := .tuple #[.int .i64 x, .int .i64 y, .bool true]) (by simp [results, Tryd.results7, go_sem]) rfl ⟨L2, T2, x, y, rfl, HP2.out.kept0 ((Fr0.refl w2).drewN _), Ks.trans HX2.out (Ks.of0 ((Fr0.refl w2).drewN _)), HG2.out, hsx2, hsy, ex2, ey⟩

end Go.Proofs.YtodmpcnpedpheaaDoor

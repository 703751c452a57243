/- The walks of the law's cut and two. -/
import Derived.Test.YtodmpcnpedpheaaGreatDoorRPa1
import Derived.BigRegion
set_option linter.unusedSimpArgs false
set_option linter.unusedVariables false
namespace Go.Proofs.YtodmpcnpedpheaaGreatDoor
open Go.RowKit

theorem sbs_cut (s : ByteArray) (n : Nat) (h : n ≤ s.size) : sbs (s.extract 0 n) = (sbs s).take n := by
  unfold sbs
  rw [← List.map_take]
  congr 1
  have : (s.extract 0 n).data = s.data.extract 0 n := ByteArray.data_extract
  rw [this]
  simp

set_option maxRecDepth 100000 in
theorem law_cut (s : ByteArray) (n : Nat) (hn : n ≤ 1000) (w : World) :
    Calls Tryz.prog 16 #[.string s, .int .i64 n] w fun e w' => ∃ t, e = .returned (.string t) ∧ sbs t = (sbs s).take n ∧ w = w' := by
  by_cases h : (s.size : Int) ≤ (n : Int)
  · have e : (sbs s).take n = sbs s := List.take_of_length_le (by rw [sbs_len]; omega)
    rw [e]
    clear e
    go_enter Tryz.func16, Tryz.ntmps16
    go_wp2_with fail
    go_ret
    exact ⟨s, rfl, rfl, rfl⟩
  · have q1 : (n : Int) ≤ (s.size : Int) := by omega
    have e := sbs_cut s n (by omega)
    rw [← e]
    clear e
    go_enter Tryz.func16, Tryz.ntmps16
    go_wp2_with fail
    go_ret
    exact ⟨_, rfl, rfl, rfl⟩

/-- A signature of any short text. -/
def OfZ (B : Nat) (w : World) (pp tp p mb : Nat) (most : Int) (L : List Ent) (bs : List Int) (e : Ending) (w' : World) : Prop :=
  ∃ L' T' id, e = .returned (.tuple #[.int .i64 id, .nilIface]) ∧ Pq B w' pp tp p mb most L' T' ∧ Kx B mb w w' ∧ Gu L L' (2 * bs.length) ∧ SigOk L' id ∧ txt L' id = bs

theorem sig_OfZ {B : Nat} {w : World} {pp tp p mb : Nat} {most : Int} {L : List Ent} {T : List KRow} {bb cap : Nat} {bs : List Int} (h : Pq B w pp tp p mb most L T) (hI : RowC w bb .u8 bs) (hbb : ∃ cs t f, w.heap[bb]? = some (Obj.cells cs t f) ∧ tyP t = false) (hb : ∀ b ∈ bs, 0 ≤ b ∧ b < 256) (hn : bs.length ≤ 65536) (hm : ((L.length + 2 * bs.length : Nat) : Int) ≤ most) (hL : L.length + 2 * bs.length ≤ 500000) :
    Calls Tryz.prog 23 #[.pointer (some ⟨pp, 0, none⟩), .slice (some ⟨bb, 0, none⟩) bs.length cap] w (OfZ B w pp tp p mb most L bs) := by
  by_cases h0 : bs = []
  · subst h0
    refine (sig_Of_nil (c := cap) (a := some ⟨bb, 0, none⟩) h).mono ?_
    rintro e w' ⟨rfl, rfl⟩
    exact ⟨L, T, 0, rfl, h, Ks.refl _ _ _ _, (Gu.refl h.sok h.dok h.uq).le (by simp), ⟨⟨by omega, by omega⟩, .inl rfl⟩, txt_zero L⟩
  · refine (sig_Of (cap := cap) h hI hbb hb h0 hn hm hL).mono ?_
    rintro e w' ⟨L', T', id, rfl, hp, hk, hg, hkn, hne, ht, hl⟩
    exact ⟨L', T', id, rfl, hp, hk, hg, ⟨hkn, .inr hl⟩, ht⟩

theorem rowC_bytes {w : World} {bb : Nat} {bs : List Int} (h : BytesAt w bb 0 bs) : RowC w bb .u8 bs := by
  obtain ⟨cur, fr, h1, h2⟩ := h.blk
  refine ⟨lt_of_block h1, fun i hi => ?_⟩
  rw [cell_of_block h1, ← h2 i hi, Nat.zero_add]

set_option maxRecDepth 100000 in
set_option maxHeartbeats 4000000 in
theorem law_two {B : Nat} {w : World} {pp tp p mb : Nat} {most : Int} {L : List Ent} {T : List KRow} (h : Pq B w pp tp p mb most L T) (a b : ByteArray) (ha : a.size ≤ 1000) (hb : b.size ≤ 1000) (hL : L.length ≤ 100000) (hm : 200000 ≤ most) :
    Calls Tryz.prog 17 #[.pointer (some ⟨pp, 0, none⟩), .string a, .string b] w fun e w' => ∃ L' T' x y, e = .returned (.tuple #[.int .i64 x, .int .i64 y, .bool true]) ∧ Pq B w' pp tp p mb most L' T' ∧ Kx B mb w w' ∧ Gu L L' (2 * (a.size + b.size)) ∧ SigOk L' x ∧ SigOk L' y ∧ txt L' x = sbs a ∧ txt L' y = sbs b := by
  obtain ⟨capa, fa, hca, hca2, hca3⟩ := conv_bytes w a
  have HP := Lib.hid h
  have F1 : Fr0 w (w.alloc (.cells (bytesRow a capa) 5 fa)).drew := ((Fr0.refl w).alloc _).drew
  have CA := Lib.hid (sig_OfZ (cap := capa) (bs := sbs a) (h.kept0 F1) (rowC_bytes (bytes_convH w w.heap.size rfl a capa fa)) ⟨_, _, _, alloc_at w _ _ rfl, by decide⟩ (sbs_rng a) (by rw [sbs_len]; omega) (by rw [sbs_len]; omega) (by rw [sbs_len]; omega))
  rw [sbs_len] at CA
  clear h
  go_enter Tryz.func17, Tryz.ntmps17
  go_wp2_with fail
  refine CA.out.mono ?_
  rintro e w1 ⟨L1, T1, x, rfl, hp1, hx1, hg1, hsx, ex⟩
  rw [sbs_len] at hg1
  have HX1 := Lib.hid (Ks.trans (Ks.of0 F1) hx1)
  have HG1 := Lib.hid hg1
  have hl1 := hg1.gr.len
  obtain ⟨capb, fb, hcb, hcb2, hcb3⟩ := conv_bytes w1 b
  have F2 : Fr0 w1 (w1.alloc (.cells (bytesRow b capb) 5 fb)).drew := ((Fr0.refl w1).alloc _).drew
  have CB := Lib.hid (sig_OfZ (cap := capb) (bs := sbs b) (hp1.kept0 F2) (rowC_bytes (bytes_convH w1 w1.heap.size rfl b capb fb)) ⟨_, _, _, alloc_at w1 _ _ rfl, by decide⟩ (sbs_rng b) (by rw [sbs_len]; omega) (by rw [sbs_len]; omega) (by rw [sbs_len]; omega))
  rw [sbs_len] at CB
  have HF2 := Lib.hid F2
  have hd1 := hp1.dok
  clear hp1 hx1 hg1 CA F1 F2 HP hca
  go_wp2_with fail
  refine CB.out.mono ?_
  rintro e w2 ⟨L2, T2, y, rfl, hp2, hx2, hg2, hsy, ey⟩
  rw [sbs_len] at hg2
  obtain ⟨hsx2, ex2⟩ := hsx.more hd1 hg2
  rw [ex] at ex2
  have HP2 := Lib.hid hp2
  have HX2 := Lib.hid (Ks.trans HX1.out (Ks.trans (Ks.of0 HF2.out) hx2))
  have HG2 := Lib.hid (HG1.out.trans hg2 (show 2 * a.size + 2 * b.size ≤ 2 * (a.size + b.size) by omega))
  clear hp2 hx2 hg2 CB hcb
  go_upto_region 3 with fail
  go_quiet (fail)
  go_wp2_with fail
  refine bodyPost_ret (v := .tuple #[.int .i64 x, .int .i64 y, .bool true]) (by simp [results, Tryz.results17, go_sem]) rfl ⟨L2, T2, x, y, rfl, HP2.out.kept0 ((Fr0.refl w2).drewN _), Ks.trans HX2.out (Ks.of0 ((Fr0.refl w2).drewN _)), HG2.out, hsx2, hsy, ex2, ey⟩

end Go.Proofs.YtodmpcnpedpheaaGreatDoor

/- The reference's table of all distances in memory: the walk of ref40.Table. -/
set_option linter.unusedSimpArgs false
set_option linter.unusedVariables false
namespace Go.Proofs.YtodmpcnpedpheaaGreatDoor
open Go.RowKit

theorem made_rowN {ST T : TypeId} {z : Value} {b : Nat} (hT : RT ST T 1 b) (hz1 : z.cells = #[z]) (hinfo : (Tryz.prog.info? T).map (fun i => (i.zero, i.size, i.bytes)) = some (some z, 1, b)) (hb24 : b ≤ 24) (n : Nat) (hn : n ≤ 1000000) (w : World) :
    (Instr.makeSlice ST (.int .i64 (n : Int)) (.int .i64 (n : Int))).run Tryz.prog w = .ok (.slice (some ⟨w.heap.size, 0, none⟩) n n) (w.alloc (.cells (madeCells #[z] n) T)) := by
  obtain ⟨_, _, _, hu, _⟩ := hT
  obtain ⟨i, hi, hzz⟩ := Option.map_eq_some_iff.1 hinfo
  simp only [Prod.mk.injEq] at hzz
  obtain ⟨hz, hs, hb⟩ := hzz
  have hbn : (i.bytes : Int) * (n : Int) ≤ 24 * (n : Int) := Int.mul_le_mul_of_nonneg_right (by omega) (by omega)
  have hr := run_make (P := Tryz.prog) w ST T i z hu hi hz .i64 .i64 (n : Int) (n : Int) (by omega) (by omega) (by omega) (by omega)
  rw [hs, hz1] at hr
  simpa using hr

theorem info_ints : (Tryz.prog.info? 33).map (fun i => (i.zero, i.size, i.bytes)) = some (some (.slice none 0 0), 1, 24) := by kernel_rfl
theorem rt_ints : RT 101 33 1 24 := by
  obtain ⟨i, h1, h2, h3, h4⟩ := info_parts info_ints
  exact ⟨by omega, i, _, Tryz.underlying101, h1, h2, h3, h4, rfl⟩

/-- A row of integers, known from an index on. -/
def IrB (W : World) (b n lo : Nat) (f : Nat → Nat) : Prop := ∃ cs : Array Value, W.heap[b]? = some (Obj.cells cs 3 (0, 0)) ∧ cs.size = n ∧ ∀ j, lo ≤ j → j < n → cs[j]? = some (.int .i64 (f j : Nat))

theorem IrB.kept {S : Nat → Prop} {w w' : World} {b n lo : Nat} {f : Nat → Nat} (h : IrB w b n lo f) (hf : Fr S w w') (hS : ¬ S b) : IrB w' b n lo f := by
  obtain ⟨cs, h1, h2⟩ := h
  exact ⟨cs, hf.kept h1 hS, h2⟩
theorem IrB.lt {w : World} {b n lo : Nat} {f : Nat → Nat} (h : IrB w b n lo f) : b < w.heap.size := by
  obtain ⟨cs, h1, h2⟩ := h
  exact lt_of_block h1
theorem IrB.cell {w : World} {b n lo : Nat} {f : Nat → Nat} (h : IrB w b n lo f) {j : Nat} (h1 : lo ≤ j) (h2 : j < n) : w.cell? ⟨b, j, none⟩ = some (.int .i64 (f j : Nat)) := by
  obtain ⟨cs, h3, h4, h5⟩ := h
  rw [cell_of_block h3]; exact h5 j h1 h2
theorem IrB.put {w : World} {b n j : Nat} {f : Nat → Nat} (h : IrB w b n (j + 1) f) (hj : j < n) (v : Value) :
    IrB (w.setCell ⟨b, j, none⟩ v) b n (j + 1) f ∧ (w.setCell ⟨b, j, none⟩ v).cell? ⟨b, j, none⟩ = some v ∧ (v = .int .i64 (f j : Nat) → IrB (w.setCell ⟨b, j, none⟩ v) b n j f) := by
  obtain ⟨cs, h3, h4, h5⟩ := h
  have hb := setCell_block h3 j v
  refine ⟨⟨_, hb, by simpa using h4, fun i h1 h2 => ?_⟩, ?_, fun hv => ⟨_, hb, by simpa using h4, fun i h1 h2 => ?_⟩⟩
  · rw [Array.getElem?_setIfInBounds, if_neg (by omega)]; exact h5 i h1 h2
  · rw [cell_of_block hb, Array.getElem?_setIfInBounds, if_pos rfl, if_pos (by omega)]
  · by_cases c : j = i
    · subst c; rw [Array.getElem?_setIfInBounds, if_pos rfl, if_pos (by omega), hv]
    · rw [Array.getElem?_setIfInBounds, if_neg c]; exact h5 i (by omega) h2

/-- The rows from an index on. -/
structure TbA (w W : World) (bo : Nat) (E : Nat → Nat → Nat) (n m i : Nat) : Prop where
  fr : Fr0 w W
  hbo : w.heap.size ≤ bo
  ex : ∃ cs : Array Value, W.heap[bo]? = some (Obj.cells cs 33 (0, 0)) ∧ cs.size = n + 1 ∧ ∀ k, i ≤ k → k ≤ n → ∃ bk, w.heap.size ≤ bk ∧ cs[k]? = some (.slice (some ⟨bk, 0, none⟩) (m + 1) (m + 1)) ∧ IrB W bk (m + 1) 0 (E k)

/-- A row that is being made. -/
structure TbJ (w W : World) (bo bk : Nat) (E : Nat → Nat → Nat) (n m k j : Nat) : Prop where
  fr : Fr0 w W
  hbo : w.heap.size ≤ bo
  hbk : w.heap.size ≤ bk
  ne : bk ≠ bo
  ex : ∃ cs : Array Value, W.heap[bo]? = some (Obj.cells cs 33 (0, 0)) ∧ cs.size = n + 1 ∧ cs[k]? = some (.slice (some ⟨bk, 0, none⟩) (m + 1) (m + 1)) ∧ ∀ i, k < i → i ≤ n → ∃ bi, w.heap.size ≤ bi ∧ bi ≠ bk ∧ cs[i]? = some (.slice (some ⟨bi, 0, none⟩) (m + 1) (m + 1)) ∧ IrB W bi (m + 1) 0 (E i)
  row : IrB W bk (m + 1) j (E k)

theorem TbA.start {w W : World} {bo n m : Nat} {cs : Array Value} (E : Nat → Nat → Nat) (hf : Fr0 w W) (hb : W.heap[bo]? = some (Obj.cells cs 33 (0, 0))) (hs : cs.size = n + 1) (h0 : w.heap.size ≤ bo) : TbA w W bo E n m (n + 1) :=
  ⟨hf, h0, cs, hb, hs, fun k h1 h2 => by omega⟩

theorem TbA.row {w W : World} {bo n m k : Nat} {E : Nat → Nat → Nat} (h : TbA w W bo E n m (k + 1)) (hk : k ≤ n) (cz : Array Value) (hz : cz.size = m + 1) :
    TbJ w ((W.setCell ⟨bo, k, none⟩ (.slice (some ⟨W.heap.size, 0, none⟩) (m + 1) (m + 1))).alloc (.cells cz 3 (0, 0))) bo W.heap.size E n m k (m + 1) := by
  obtain ⟨cs, h1, h2, h3⟩ := h.ex
  have hlt := lt_of_block h1
  have hsz := h.fr.size
  have F1 : Fr (fun q => q = bo) W (W.setCell ⟨bo, k, none⟩ (.slice (some ⟨W.heap.size, 0, none⟩) (m + 1) (m + 1))) := fr_set1 (Fr.refl _ W) k _
  have F2 : Fr (fun q => q = bo) W ((W.setCell ⟨bo, k, none⟩ (.slice (some ⟨W.heap.size, 0, none⟩) (m + 1) (m + 1))).alloc (.cells cz 3 (0, 0))) := F1.alloc _
  have z1 : (W.setCell ⟨bo, k, none⟩ (.slice (some ⟨W.heap.size, 0, none⟩) (m + 1) (m + 1))).heap.size = W.heap.size := by simp [World.setCell]
  have b2 := alloc_at (W.setCell ⟨bo, k, none⟩ (.slice (some ⟨W.heap.size, 0, none⟩) (m + 1) (m + 1))) (.cells cz 3 (0, 0)) W.heap.size z1.symm
  have b1 : ((W.setCell ⟨bo, k, none⟩ (.slice (some ⟨W.heap.size, 0, none⟩) (m + 1) (m + 1))).alloc (.cells cz 3 (0, 0))).heap[bo]? = some (Obj.cells (cs.setIfInBounds k (.slice (some ⟨W.heap.size, 0, none⟩) (m + 1) (m + 1))) 33 (0, 0)) := by
    rw [alloc_lt _ _ _ (by rw [z1]; exact hlt)]
    exact setCell_block h1 k _
  have G : Fr0 w (W.setCell ⟨bo, k, none⟩ (.slice (some ⟨W.heap.size, 0, none⟩) (m + 1) (m + 1))) := h.fr.setCell _ _ h.hbo
  refine ⟨G.alloc _, h.hbo, hsz, by omega, ⟨_, b1, by simpa using h2, ?_, fun i h4 h5 => ?_⟩, ⟨cz, b2, hz, fun j h4 h5 => by omega⟩⟩
  · rw [Array.getElem?_setIfInBounds, if_pos rfl, if_pos (by omega)]
  · obtain ⟨bi, h6, h7, h8⟩ := h3 i (by omega) h5
    have := h8.lt
    have hne : bi ≠ bo := by
      intro e
      obtain ⟨cs', h9, _⟩ := h8
      rw [e] at h9
      exact ne_of_types h9 h1 (by decide) rfl
    refine ⟨bi, h6, by omega, ?_, h8.kept F2 hne⟩
    rw [Array.getElem?_setIfInBounds, if_neg (by omega)]; exact h7

theorem TbJ.cells {w W : World} {bo bk n m k j : Nat} {E : Nat → Nat → Nat} (h : TbJ w W bo bk E n m k j) (hk : k ≤ n) :
    W.cell? ⟨bo, k, none⟩ = some (.slice (some ⟨bk, 0, none⟩) (m + 1) (m + 1)) ∧ bo < W.heap.size ∧ bk < W.heap.size ∧ (∀ o, W.frozen? ⟨bk, o, none⟩ = false) ∧ ∀ i, i ≤ m → ∃ u, W.cell? ⟨bk, i, none⟩ = some u := by
  obtain ⟨cs, h1, h2, h3, h4⟩ := h.ex
  obtain ⟨cr, h5, h6, _⟩ := h.row
  exact ⟨by rw [cell_of_block h1]; exact h3, lt_of_block h1, lt_of_block h5, fun o => frozen_of_block h5 o, fun i hi => ⟨cr[i]'(by omega), by rw [cell_of_block h5]; exact Array.getElem?_eq_getElem _⟩⟩

theorem TbJ.below {w W : World} {bo bk n m k j : Nat} {E : Nat → Nat → Nat} (h : TbJ w W bo bk E n m k j) (hk : k < n) :
    ∃ bi, bi ≠ bk ∧ bi < W.heap.size ∧ W.cell? ⟨bo, k + 1, none⟩ = some (.slice (some ⟨bi, 0, none⟩) (m + 1) (m + 1)) ∧ IrB W bi (m + 1) 0 (E (k + 1)) := by
  obtain ⟨cs, h1, h2, h3, h4⟩ := h.ex
  obtain ⟨bi, h5, h6, h7, h8⟩ := h4 (k + 1) (by omega) (by omega)
  exact ⟨bi, h6, h8.lt, by rw [cell_of_block h1]; exact h7, h8⟩

theorem TbJ.put {w W : World} {bo bk n m k j : Nat} {E : Nat → Nat → Nat} (h : TbJ w W bo bk E n m k (j + 1)) (hj : j ≤ m) (v : Value) :
    TbJ w (W.setCell ⟨bk, j, none⟩ v) bo bk E n m k (j + 1) ∧ (W.setCell ⟨bk, j, none⟩ v).cell? ⟨bk, j, none⟩ = some v ∧ (v = .int .i64 (E k j : Nat) → TbJ w (W.setCell ⟨bk, j, none⟩ v) bo bk E n m k j) := by
  obtain ⟨r1, r2, r3⟩ := h.row.put (show j < m + 1 by omega) v
  have F : Fr (fun q => q = bk) W (W.setCell ⟨bk, j, none⟩ v) := fr_set1 (Fr.refl _ W) j v
  have ex : ∃ cs : Array Value, (W.setCell ⟨bk, j, none⟩ v).heap[bo]? = some (Obj.cells cs 33 (0, 0)) ∧ cs.size = n + 1 ∧ cs[k]? = some (.slice (some ⟨bk, 0, none⟩) (m + 1) (m + 1)) ∧ ∀ i, k < i → i ≤ n → ∃ bi, w.heap.size ≤ bi ∧ bi ≠ bk ∧ cs[i]? = some (.slice (some ⟨bi, 0, none⟩) (m + 1) (m + 1)) ∧ IrB (W.setCell ⟨bk, j, none⟩ v) bi (m + 1) 0 (E i) := by
    obtain ⟨cs, h1, h2, h3, h4⟩ := h.ex
    refine ⟨cs, F.kept h1 (fun e => h.ne e.symm), h2, h3, fun i h5 h6 => ?_⟩
    obtain ⟨bi, h7, h8, h9, h10⟩ := h4 i h5 h6
    exact ⟨bi, h7, h8, h9, h10.kept F h8⟩
  exact ⟨⟨h.fr.setCell _ _ h.hbk, h.hbo, h.hbk, h.ne, ex, r1⟩, r2, fun hv => ⟨h.fr.setCell _ _ h.hbk, h.hbo, h.hbk, h.ne, ex, r3 hv⟩⟩

theorem TbJ.kept0 {w W W' : World} {bo bk n m k j : Nat} {E : Nat → Nat → Nat} (h : TbJ w W bo bk E n m k j) (hf : Fr0 W W') : TbJ w W' bo bk E n m k j := by
  obtain ⟨cs, h1, h2, h3, h4⟩ := h.ex
  refine ⟨h.fr.trans hf, h.hbo, h.hbk, h.ne, ⟨cs, hf.kept h1, h2, h3, fun i h5 h6 => ?_⟩, h.row.kept hf id⟩
  obtain ⟨bi, h7, h8, h9, h10⟩ := h4 i h5 h6
  exact ⟨bi, h7, h8, h9, h10.kept hf id⟩

theorem TbJ.done {w W : World} {bo bk n m k : Nat} {E : Nat → Nat → Nat} (h : TbJ w W bo bk E n m k 0) : TbA w W bo E n m k := by
  obtain ⟨cs, h1, h2, h3, h4⟩ := h.ex
  refine ⟨h.fr, h.hbo, cs, h1, h2, fun i h5 h6 => ?_⟩
  by_cases c : i = k
  · subst c; exact ⟨bk, h.hbk, h3, h.row⟩
  · obtain ⟨bi, h7, _, h9, h10⟩ := h4 i (by omega) h6
    exact ⟨bi, h7, h9, h10⟩

theorem TbJ.more {w W : World} {bo bk n m k j : Nat} {E : Nat → Nat → Nat} (h : TbJ w W bo bk E n m k (j + 1)) (hj : j ≤ m) (hc : W.cell? ⟨bk, j, none⟩ = some (.int .i64 (E k j : Nat))) : TbJ w W bo bk E n m k j := by
  obtain ⟨cs, h1, h2, h3⟩ := h.row
  refine ⟨h.fr, h.hbo, h.hbk, h.ne, h.ex, ⟨cs, h1, h2, fun i h4 h5 => ?_⟩⟩
  by_cases c : j = i
  · subst c; rw [cell_of_block h1] at hc; exact hc
  · exact h3 i (by omega) h5

theorem sbs_at40 (a : ByteArray) (k : Nat) (h : k < a.size) : (sbs a).getD k 0 = (a[k].toNat : Int) := by
  unfold sbs
  rw [List.getD_eq_getElem?_getD, List.getElem?_map, List.getElem?_eq_getElem (by simpa using h)]
  rfl

/-- What Table leaves. -/
def TbPost (w : World) (E : Nat → Nat → Nat) (n m : Nat) (e : Ending) (w' : World) : Prop := ∃ bo, e = .returned (.slice (some ⟨bo, 0, none⟩) (n + 1) (n + 1)) ∧ TbA w w' bo E n m 0

end Go.Proofs.YtodmpcnpedpheaaGreatDoor

/- The walk of ref40.Table. -/
set_option linter.unusedSimpArgs false
set_option linter.unusedVariables false
namespace Go.Proofs.YtodmpcnpedpheaaGreatDoor
open Go.RowKit

set_option maxRecDepth 100000 in
set_option maxHeartbeats 4000000 in
theorem rf_Table (w : World) (a b : ByteArray) (E : Nat → Nat → Nat) (n m : Nat) (hn : a.size = n) (hm : b.size = m) (hn3 : n ≤ 400) (hm3 : m ≤ 400)
    (hE1 : ∀ j, j ≤ m → E n j = m - j) (hE2 : ∀ k, k ≤ n → E k m = n - k)
    (hE3 : ∀ k j, k < n → j < m → (E k j : Int) = if (sbs a).getD k 0 = (sbs b).getD j 0 then min (1 + min (E (k + 1) j : Int) (E k (j + 1))) (E (k + 1) (j + 1)) else 1 + min (E (k + 1) j : Int) (E k (j + 1))) (hEb : ∀ k j, k ≤ n → j ≤ m → E k j ≤ 1000) :
    Calls Tryz.prog 37 #[.string a, .string b] w (TbPost w E n m) := by
  obtain ⟨n1, hn1⟩ : ∃ n1, n + 1 = n1 := ⟨_, rfl⟩
  obtain ⟨m1, hm1⟩ : ∃ m1, m + 1 = m1 := ⟨_, rfl⟩
  have qn : IntKind.i64.wrap ((n : Int) + 1) = (n1 : Int) := by rw [show (n : Int) + 1 = (n1 : Int) by omega]; exact wrapI (by omega) (by omega)
  have qm : IntKind.i64.wrap ((m : Int) + 1) = (m1 : Int) := by rw [show (m : Int) + 1 = (m1 : Int) by omega]; exact wrapI (by omega) (by omega)
  have hmk1 := made_rowN rt_ints rfl info_ints (by omega) n1 (by omega)
  have hmk2 := made_rowN rt_int rfl info_int (by omega) m1 (by omega)
  have HN1 := Lib.hid hn1
  have HM1 := Lib.hid hm1
  have HE1 := Lib.hid hE1
  have HE2 := Lib.hid hE2
  have HE3 := Lib.hid hE3
  have HEB := Lib.hid hEb
  have HN := Lib.hid hn
  have HM := Lib.hid hm
  clear hn1 hm1 hE1 hE2 hE3 hEb
  go_enter Tryz.func37, Tryz.ntmps37
  go_wp2_with fail
  have hsz0 : (madeCells #[Value.slice none 0 0] n1).size = n + 1 := by rw [size_madeCells]; exact HN1.out.symm
  have hA0 := TbA.start (m := m) E ((Fr0.refl w).alloc (.cells (madeCells #[Value.slice none 0 0] n1) 33)) (alloc_at w (.cells (madeCells #[Value.slice none 0 0] n1) 33 (0, 0)) w.heap.size rfl) hsz0 (Nat.le_refl _)
  have HA0 := Lib.hid hA0
  clear hsz0 hA0
  generalize w.alloc (Obj.cells (madeCells #[Value.slice none 0 0] n1) 33) = W0 at *
  generalize hbo : w.heap.size = bo at HA0 ⊢
  clear hbo
  go_loopg [6] n1 (fun gk d wr => ∃ (x : Int), d = .int .i64 x ∧ x = (gk : Int) - 1 ∧ gk ≤ n1 ∧ TbA w wr bo E n m gk)
  case atStart => exact ⟨_, rfl, by have := HN1.out; omega, Nat.le_refl _, by have := HA0.out; have h1 := HN1.out; rw [← h1]; exact this⟩
  case round =>
    clear HA0
    obtain ⟨x, rfl, hx, hg, hA⟩ := hrel
    have HA := Lib.hid hA
    cases gk with
    | zero =>
      have hx0 : x < 0 := by omega
      have z1 : decide ((0 : Int) ≤ x) = false := decide_eq_false (by omega)
      clear hA hx
      go_wp2_with fail
      refine bodyPost_ret (v := .slice (some ⟨bo, 0, none⟩) n1 n1) (by simp [results, Tryz.results37, go_sem]) rfl ⟨bo, by rw [HN1.out], HA.out⟩
    | succ k =>
      obtain rfl : x = (k : Int) := by omega
      clear hx
      have hkn : k ≤ n := by have := HN1.out; omega
      have hk1 : k < n1 := by omega
      have hkc : (k : Int) < (n1 : Int) := by omega
      have hk0 : (0 : Int) ≤ (k : Int) := by omega
      have z1 : decide ((0 : Int) ≤ (k : Int)) = true := decide_eq_true hk0
      obtain ⟨cs, hcs, hcz, _⟩ := hA.ex
      have lb := lt_of_block hcs
      have fb := fun o => frozen_of_block hcs o
      obtain ⟨u0, hu0⟩ : ∃ u0, wr.cell? ⟨bo, k, none⟩ = some u0 := ⟨cs[k]'(by omega), by rw [cell_of_block hcs]; exact Array.getElem?_eq_getElem _⟩
      clear hcs hA hcz
      go_wp2_with fail
      have HJ0 := Lib.hid (HA.out.row hkn (madeCells #[Value.int IntKind.i64 0] m1) (by rw [size_madeCells]; exact HM1.out.symm))
      rw [HM1.out] at HJ0
      clear lb fb hu0 HA hmk1 hmk2
      generalize (wr.setCell ⟨bo, k, none⟩ (Value.slice (some ⟨wr.heap.size, 0, none⟩) m1 m1)).alloc (Obj.cells (madeCells #[Value.int IntKind.i64 0] m1) 3 (0, 0)) = W1 at HJ0 ⊢
      generalize wr.heap.size = bk at HJ0
      have qk : IntKind.i64.wrap ((k : Int) - 1) = (k : Int) - 1 := wrapI (by omega) (by omega)
      go_loopg [7] m1 (fun gj d wx => ∃ (y : Int), d = .int .i64 y ∧ y = (gj : Int) - 1 ∧ gj ≤ m1 ∧ TbJ w wx bo bk E n m k gj)
      case atStart => exact ⟨_, rfl, by have := HM1.out; omega, Nat.le_refl _, HJ0.out⟩
      case round =>
        clear HJ0
        obtain ⟨y, rfl, hy, hgj, hJ⟩ := hrel
        have HJ := Lib.hid hJ
        cases gk with
        | zero =>
          have hy0 : y < 0 := by omega
          have y1 : decide ((0 : Int) ≤ y) = false := decide_eq_false (by omega)
          clear hJ hy
          go_wp2_with fail
          go_roundg k
          case measure => omega
          case rel => exact ⟨_, rfl, rfl, by omega, HJ.out.done⟩
        | succ j =>
          obtain rfl : y = (j : Int) := by omega
          clear hy
          have hjm : j ≤ m := by have := HM1.out; omega
          have hj1 : j < m1 := by omega
          have hjc : (j : Int) < (m1 : Int) := by omega
          have hj0 : (0 : Int) ≤ (j : Int) := by omega
          have y1 : decide ((0 : Int) ≤ (j : Int)) = true := decide_eq_true hj0
          have qj : IntKind.i64.wrap ((j : Int) - 1) = (j : Int) - 1 := wrapI (by omega) (by omega)
          obtain ⟨e0, lbo, lbk, fk, hold⟩ := hJ.cells hkn
          obtain ⟨u0, hu0⟩ := hold j hjm
          rw [HM1.out] at e0
          clear hold hJ
          by_cases ckn : k = n
          · subst ckn
            have v1 : IntKind.i64.wrap ((m : Int) - (j : Int)) = ((E k j : Nat) : Int) := by rw [HE1.out j hjm, show (m : Int) - (j : Int) = ((m - j : Nat) : Int) by omega]; exact wrapI (by omega) (by omega)
            go_wp2_with fail
            go_roundg j
            case measure => omega
            case rel => exact ⟨_, rfl, rfl, by omega, (HJ.out.put hjm _).2.2 rfl⟩
          · have ckl : k < n := by omega
            have ck1 : ((k : Int) == (n : Int)) = false := beq_eq_false_iff_ne.2 (by omega)
            by_cases cjm : j = m
            · subst cjm
              have v1 : IntKind.i64.wrap ((n : Int) - (k : Int)) = ((E k j : Nat) : Int) := by rw [HE2.out k hkn, show (n : Int) - (k : Int) = ((n - k : Nat) : Int) by omega]; exact wrapI (by omega) (by omega)
              go_wp2_with fail
              go_roundg j
              case measure => omega
              case rel => exact ⟨_, rfl, rfl, by omega, (HJ.out.put hjm _).2.2 rfl⟩
            · have cjl : j < m := by omega
              have cj1 : ((j : Int) == (m : Int)) = false := beq_eq_false_iff_ne.2 (by omega)
              obtain ⟨bi, hbi, lbi, e1, hI⟩ := HJ.out.below ckl
              rw [HM1.out] at e1
              have r1 := hI.cell (Nat.zero_le j) (by omega)
              have r3 := hI.cell (Nat.zero_le (j + 1)) (by omega)
              have r2 := HJ.out.row.cell (Nat.le_refl (j + 1)) (by omega)
              have hv := HE3.out k j ckl cjl
              have hb1 := HEB.out (k + 1) j (by omega) (by omega)
              have hb2 := HEB.out k (j + 1) (by omega) (by omega)
              have hb3 := HEB.out (k + 1) (j + 1) (by omega) (by omega)
              obtain ⟨k1, hk1'⟩ : ∃ k1, k + 1 = k1 := ⟨_, rfl⟩
              obtain ⟨j1, hj1'⟩ : ∃ j1, j + 1 = j1 := ⟨_, rfl⟩
              have t1 : IntKind.i64.wrap ((k : Int) + 1) = (k1 : Int) := by rw [show (k : Int) + 1 = (k1 : Int) by omega]; exact wrapI (by omega) (by omega)
              have t2 : IntKind.i64.wrap ((j : Int) + 1) = (j1 : Int) := by rw [show (j : Int) + 1 = (j1 : Int) by omega]; exact wrapI (by omega) (by omega)
              have t3 : (k1 : Int) < (n1 : Int) := by have := HN1.out; omega
              have t4 : (j1 : Int) < (m1 : Int) := by have := HM1.out; omega
              have t5 : (0 : Int) ≤ (k1 : Int) := by omega
              have t6 : (0 : Int) ≤ (j1 : Int) := by omega
              have t7 : k1 < n1 := by omega
              have t8 : j1 < m1 := by omega
              rw [hk1', hj1'] at hv
              rw [hk1'] at e1 r1 hb1
              rw [hj1'] at r2 hb2
              rw [hk1', hj1'] at r3 hb3
              generalize E k1 j = P at *
              generalize E k j1 = Q at *
              obtain ⟨R, hR⟩ : ∃ R, E k1 j1 = R := ⟨_, rfl⟩
              rw [hR] at hv hb3 r3
              have HR := Lib.hid hR
              clear hR
              have HV := Lib.hid hv
              have HK1 := Lib.hid hk1'
              have HJ1 := Lib.hid hj1'
              have HI := Lib.hid hI
              clear hv hk1' hj1' hI
              obtain ⟨S, hS⟩ : ∃ S : Nat, 1 + min P Q = S := ⟨_, rfl⟩
              have HS := Lib.hid hS
              clear hS
              go_upto_region 9 with fail
              go_cut [54] (fun u wx => TbJ w wx bo bk E n m k (j + 1) ∧ wx.cell? ⟨bk, j, none⟩ = some (.int .i64 (S : Nat)) ∧ IrB wx bi (m + 1) 0 (E k1) ∧ bi < wx.heap.size ∧ wx.cell? ⟨bo, k1, none⟩ = some (.slice (some ⟨bi, 0, none⟩) m1 m1))
              case first =>
                have fin : Hid (∀ W, Fr (fun q => q = bk) wr W → bi < W.heap.size ∧ IrB W bi (m + 1) 0 (E k1) ∧ W.cell? ⟨bo, k1, none⟩ = some (.slice (some ⟨bi, 0, none⟩) m1 m1)) := fun W hW => ⟨Nat.lt_of_lt_of_le lbi hW.size, (by have := HI.out.kept hW hbi; rw [HK1.out] at this; exact this), (by rw [hW.cell ⟨bo, k1, none⟩ lbo (fun e => HJ.out.ne e.symm)]; exact e1)⟩
                refine region_still_tail 24 (by kernel_rfl) (by kernel_rfl) ?_
                simp only [List.take_succ_cons, List.take_zero, List.drop_succ_cons, List.drop_zero]
                by_cases cpq : P ≤ Q
                · have s1 : (P : Int) ≤ (Q : Int) := by omega
                  have s2 : IntKind.i64.wrap (1 + (P : Int)) = (S : Int) := by have := HS.out; rw [show 1 + (P : Int) = (S : Int) by omega]; exact wrapI (by omega) (by omega)
                  iterate 24 still_step
                  refine wpStill_nil ?_
                  go_wp2_with fail
                  go_meet
                  obtain ⟨p1, p2, _⟩ := HJ.out.put hjm (.int .i64 (S : Nat))
                  obtain ⟨f1, f2, f3⟩ := fin.out _ (fr_set1 (Fr.refl (fun q => q = bk) wr) j (.int .i64 (S : Nat))).drew
                  exact ⟨p1.kept0 (Fr0.refl _).drew, p2, f2, f1, f3⟩
                · have s1 : (Q : Int) ≤ (P : Int) := by omega
                  have s1' : ¬ ((P : Int) ≤ (Q : Int)) := by omega
                  have s2 : IntKind.i64.wrap (1 + (Q : Int)) = (S : Int) := by have := HS.out; rw [show 1 + (Q : Int) = (S : Int) by omega]; exact wrapI (by omega) (by omega)
                  iterate 24 still_step
                  refine wpStill_nil ?_
                  go_wp2_with fail
                  go_meet
                  obtain ⟨p1, p2, _⟩ := HJ.out.put hjm (.int .i64 (S : Nat))
                  obtain ⟨f1, f2, f3⟩ := fin.out _ (fr_set1 (Fr.refl (fun q => q = bk) wr) j (.int .i64 (S : Nat))).drew
                  exact ⟨p1.kept0 (Fr0.refl _).drew, p2, f2, f1, f3⟩
              case rest =>
              obtain ⟨hJ2, x1, hI2, lbi2, x2⟩ := hcut
              have HJ2 := Lib.hid hJ2
              have HI2 := Lib.hid hI2
              obtain ⟨y0, lbo2, lbk2, fk2, _⟩ := hJ2.cells hkn
              rw [HM1.out] at y0
              have y3 := hI2.cell (j := j1) (Nat.zero_le _) (by have := HM1.out; omega)
              rw [HR.out] at y3
              rename World => W2
              clear hJ2 hI2 e0 e1 r1 r2 r3 lbo lbk fk lbi hu0 HJ HI
              go_upto_region 10 with fail
              obtain ⟨cb, hcb⟩ : ∃ cb : Bool, decide ((sbs a).getD k 0 = (sbs b).getD j 0) = cb := ⟨_, rfl⟩
              have HCB := Lib.hid hcb
              clear hcb
              go_cut [61] (fun u wx => u = .bool cb ∧ Fr0 W2 wx)
              case first =>
                go_quiet (fail)
                go_wp2_with fail
                go_meet
                refine ⟨?_, (Fr0.refl W2).drewN _⟩
                have g1 := sbs_at40 a k (by have := HN.out; omega)
                have g2 := sbs_at40 b j (by have := HM.out; omega)
                have g3 := HCB.out
                rw [g1, g2] at g3
                rw [← g3]
                exact congrArg Value.bool (by by_cases c : (a[k].toNat : Int) = (b[j].toNat : Int) <;> simp [c])
              case rest =>
              obtain ⟨rfl, hf2⟩ := hcut
              rename World => W3
              have HJ3 := Lib.hid (HJ2.out.kept0 hf2)
              have HI3 := Lib.hid (HI2.out.kept hf2 id)
              have x3 := (hf2.cell bk j lbk2).trans x1
              have x4 := (hf2.cell bo k1 lbo2).trans x2
              have lbi3 : bi < W3.heap.size := Nat.lt_of_lt_of_le lbi2 (Fr.size hf2)
              clear hf2 HJ2 HI2 x1 x2 lbi2 lbo2 lbk2 fk2 y0 y3
              obtain ⟨y0, lbo3, lbk3, fk3, _⟩ := HJ3.out.cells hkn
              rw [HM1.out] at y0
              have y3 := HI3.out.cell (j := j1) (Nat.zero_le _) (by have := HM1.out; omega)
              rw [HR.out] at y3
              go_upto_if 61 with fail
              cases cb with
              | true =>
                have hv2 := HV.out
                rw [if_pos (of_decide_eq_true HCB.out)] at hv2
                have hs2 := HS.out
                go_upto_region 11 with fail
                refine region_still_tail 23 (by kernel_rfl) (by kernel_rfl) ?_
                simp only [List.take_succ_cons, List.take_zero, List.drop_succ_cons, List.drop_zero]
                by_cases csr : S ≤ R
                · have s1 : (S : Int) ≤ (R : Int) := by omega
                  have he : S = E k j := by omega
                  clear hv2 hs2
                  iterate 23 still_step
                  refine wpStill_nil ?_
                  go_wp2_with fail
                  go_roundg j
                  case measure => omega
                  case rel => exact ⟨_, rfl, rfl, by omega, ((HJ3.out.put hjm _).2.2 rfl).kept0 (Fr0.refl _).drew⟩
                · have s1 : (R : Int) ≤ (S : Int) := by omega
                  have s1' : ¬ ((S : Int) ≤ (R : Int)) := by omega
                  have he : R = E k j := by omega
                  clear hv2 hs2
                  iterate 23 still_step
                  refine wpStill_nil ?_
                  go_wp2_with fail
                  go_roundg j
                  case measure => omega
                  case rel => exact ⟨_, rfl, rfl, by omega, ((HJ3.out.put hjm _).2.2 rfl).kept0 (Fr0.refl _).drew⟩
              | false =>
                have hv2 := HV.out
                rw [if_neg (of_decide_eq_false HCB.out)] at hv2
                have hs2 := HS.out
                go_wp2_with fail
                go_roundg j
                case measure => omega
                case rel => exact ⟨_, rfl, rfl, by omega, HJ3.out.more hjm (by rw [x3, show E k j = S by omega])⟩

theorem rf_TableE (w : World) (a b : ByteArray) (ha : a.size ≤ 400) (hb : b.size ≤ 400) :
    Calls Tryz.prog 37 #[.string a, .string b] w (TbPost w (fun k j => edp (sbs a) (sbs b) k j) a.size b.size) := by
  have la := sbs_len a
  have lb := sbs_len b
  refine rf_Table w a b _ _ _ rfl rfl ha hb (fun j hj => ?_) (fun k hk => ?_) (fun k j hk hj => ?_) (fun k j hk hj => ?_)
  · show edp (sbs a) (sbs b) a.size j = _
    rw [edp_endA _ _ (by omega)]; omega
  · show edp (sbs a) (sbs b) k b.size = _
    rw [edp_endB _ _ (by omega)]; omega
  · exact edp_ref (sbs a) (sbs b) (by omega) (by omega)
  · show edp (sbs a) (sbs b) k j ≤ 1000
    have := (ed_gap ((sbs a).drop k) ((sbs b).drop j)).2.2
    unfold edp
    simp only [List.length_drop] at this
    omega

set_option maxRecDepth 100000 in
set_option maxHeartbeats 1000000 in
theorem rf_Distance (w : World) (a b : ByteArray) (ha : a.size ≤ 400) (hb : b.size ≤ 400) :
    Calls Tryz.prog 18 #[.string a, .string b] w fun e w' => e = .returned (.int .i64 (ed (sbs a) (sbs b) : Nat)) ∧ Fr0 w w' := by
  have CT := Lib.hid (rf_TableE w a b ha hb)
  obtain ⟨n1, hn1⟩ : ∃ n1, a.size + 1 = n1 := ⟨_, rfl⟩
  obtain ⟨m1, hm1⟩ : ∃ m1, b.size + 1 = m1 := ⟨_, rfl⟩
  go_enter Tryz.func18, Tryz.ntmps18
  go_wp2_with fail
  refine CT.out.mono ?_
  rintro e w2 ⟨bo, rfl, hA⟩
  obtain ⟨cs, h1, h2, h3⟩ := hA.ex
  obtain ⟨bk, h4, h5, h6⟩ := h3 0 (Nat.le_refl _) (by omega)
  have e0 : w2.cell? ⟨bo, 0, none⟩ = some (.slice (some ⟨bk, 0, none⟩) (b.size + 1) (b.size + 1)) := by rw [cell_of_block h1]; exact h5
  have e1 := h6.cell (Nat.le_refl 0) (by omega)
  have hF := Lib.hid hA.fr
  have q1 : (0 : Int) < (n1 : Int) := by omega
  have q2 : (0 : Int) < (m1 : Int) := by omega
  have q3 : 0 < n1 := by omega
  have q4 : 0 < m1 := by omega
  rw [hm1] at e0
  rw [hn1]
  have e1' : w2.cell? ⟨bk, 0, none⟩ = some (.int .i64 (ed (sbs a) (sbs b) : Nat)) := e1
  have l1 := lt_of_block h1
  have l2 := h6.lt
  clear h1 h2 h3 h4 h5 h6 hA e1 hn1 hm1 CT
  obtain ⟨d, hd⟩ : ∃ d, ed (sbs a) (sbs b) = d := ⟨_, rfl⟩
  rw [hd] at e1'
  have HD := Lib.hid hd
  clear hd
  go_wp2_with fail
  go_ret
  exact ⟨congrArg (fun n : Nat => Ending.returned (.int .i64 n)) HD.out.symm, hF.out⟩

end Go.Proofs.YtodmpcnpedpheaaGreatDoor

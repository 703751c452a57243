/- DiffDistances: for both texts the law returns true, and its arguments read as they did; the listed variable is tied to the program's text. No condition. -/
import Derived.Test.YtodmpcnpedpheaaDoorQPa3
import Derived.BigRegion
import Derived.Test.YtodmpcnpedpheaaDoorTie
import Derived.Test.YtodmpcnpedpheaaDoorCards
import Derived.ProofKit
import Derived.LaidMore
import Derived.OpenShut
import Derived.Stop.Joined
import Derived.SevenTiedAt
import Derived.ChangeMaps5
import Derived.Carry
import Derived.Deep.Slices
import Derived.Deep.Fields
import Derived.ChangeSame
set_option linter.unusedSimpArgs false
set_option linter.unusedVariables false
namespace Go.Proofs.YtodmpcnpedpheaaDoor
open Go.RowKit

theorem made_rowN {ST T : TypeId} {z : Value} {b : Nat} (hT : RT ST T 1 b) (hz1 : z.cells = #[z]) (hinfo : (Tryd.prog.info? T).map (fun i => (i.zero, i.size, i.bytes)) = some (some z, 1, b)) (hb24 : b ≤ 24) (n : Nat) (hn : n ≤ 1000000) (w : World) :
    (Instr.makeSlice ST (.int .i64 (n : Int)) (.int .i64 (n : Int))).run Tryd.prog w = .ok (.slice (some ⟨w.heap.size, 0, none⟩) n n) (w.alloc (.cells (madeCells #[z] n) T)) := by
  obtain ⟨_, _, _, hu, _⟩ := hT
  obtain ⟨i, hi, hzz⟩ := Option.map_eq_some_iff.1 hinfo
  simp only [Prod.mk.injEq] at hzz
  obtain ⟨hz, hs, hb⟩ := hzz
  have hbn : (i.bytes : Int) * (n : Int) ≤ 24 * (n : Int) := Int.mul_le_mul_of_nonneg_right (by omega) (by omega)
  have hr := run_make (P := Tryd.prog) w ST T i z hu hi hz .i64 .i64 (n : Int) (n : Int) (by omega) (by omega) (by omega) (by omega)
  rw [hs, hz1] at hr
  simpa using hr

theorem info_ints : (Tryd.prog.info? 58).map (fun i => (i.zero, i.size, i.bytes)) = some (some (.slice none 0 0), 1, 24) := by kernel_rfl
theorem rt_ints : RT 59 58 1 24 := by
  obtain ⟨i, h1, h2, h3, h4⟩ := info_parts info_ints
  exact ⟨by omega, i, _, Tryd.underlying59, h1, h2, h3, h4, rfl⟩

/-- A row of integers, known from an index on. -/
def IrB (W : World) (b n lo : Nat) (f : Nat → Nat) : Prop := ∃ cs : Array Value, W.heap[b]? = some (Obj.cells cs 3 (0, 0)) ∧ cs.size = n ∧ ∀ j, lo ≤ j → j < n → cs[j]? = some (.int .i64 (f j : Nat))

theorem IrB.kept {S : Nat → Prop} {w w' : World} {b n lo : Nat} {f : Nat → Nat} (h : IrB w b n lo f) (hf : Fr S w w') (hS : ¬ S b) : IrB w' b n lo f := by
  obtain ⟨cs, h1, h2⟩ := h
  exact ⟨cs, hf.kept h1 hS, h2⟩
theorem IrB.lt {w : World} {b n lo : Nat} {f : Nat → Nat} (h : IrB w b n lo f) : b < w.heap.size := by
  obtain ⟨cs, h1, h2⟩ := h
  exact lt_of_block h1
theorem IrB.cell {w : World} {b n lo : Nat} {f : Nat → Nat} (h : IrB w b n lo f) {j : Nat} (h1 : lo ≤ j) (h2 : j < n) : w.cell? ⟨b, j, none⟩ = some (.int .i64 (f j : Nat)) := by
  obtain ⟨cs, h3, h4, h5⟩ := h
  rw [cell_of_block h3]; exact h5 j h1 h2
theorem IrB.put {w : World} {b n j : Nat} {f : Nat → Nat} (h : IrB w b n (j + 1) f) (hj : j < n) (v : Value) :
    IrB (w.setCell ⟨b, j, none⟩ v) b n (j + 1) f ∧ (w.setCell ⟨b, j, none⟩ v).cell? ⟨b, j, none⟩ = some v ∧ (v = .int .i64 (f j : Nat) → IrB (w.setCell ⟨b, j, none⟩ v) b n j f) := by
  obtain ⟨cs, h3, h4, h5⟩ := h
  have hb := setCell_block h3 j v
  refine ⟨⟨_, hb, by simpa using h4, fun i h1 h2 => ?_⟩, ?_, fun hv => ⟨_, hb, by simpa using h4, fun i h1 h2 => ?_⟩⟩
  · rw [Array.getElem?_setIfInBounds, if_neg (by omega)]; exact h5 i h1 h2
  · rw [cell_of_block hb, Array.getElem?_setIfInBounds, if_pos rfl, if_pos (by omega)]
  · by_cases c : j = i
    · subst c; rw [Array.getElem?_setIfInBounds, if_pos rfl, if_pos (by omega), hv]
    · rw [Array.getElem?_setIfInBounds, if_neg c]; exact h5 i (by omega) h2

/-- The rows from an index on. -/
structure TbA (w W : World) (bo : Nat) (E : Nat → Nat → Nat) (n m i : Nat) : Prop where
  fr : Fr0 w W
  hbo : w.heap.size ≤ bo
  ex : ∃ cs : Array Value, W.heap[bo]? = some (Obj.cells cs 58 (0, 0)) ∧ cs.size = n + 1 ∧ ∀ k, i ≤ k → k ≤ n → ∃ bk, w.heap.size ≤ bk ∧ cs[k]? = some (.slice (some ⟨bk, 0, none⟩) (m + 1) (m + 1)) ∧ IrB W bk (m + 1) 0 (E k)

/-- A row that is being made. -/
structure TbJ (w W : World) (bo bk : Nat) (E : Nat → Nat → Nat) (n m k j : Nat) : Prop where
  fr : Fr0 w W
  hbo : w.heap.size ≤ bo
  hbk : w.heap.size ≤ bk
  ne : bk ≠ bo
  ex : ∃ cs : Array Value, W.heap[bo]? = some (Obj.cells cs 58 (0, 0)) ∧ cs.size = n + 1 ∧ cs[k]? = some (.slice (some ⟨bk, 0, none⟩) (m + 1) (m + 1)) ∧ ∀ i, k < i → i ≤ n → ∃ bi, w.heap.size ≤ bi ∧ bi ≠ bk ∧ cs[i]? = some (.slice (some ⟨bi, 0, none⟩) (m + 1) (m + 1)) ∧ IrB W bi (m + 1) 0 (E i)
  row : IrB W bk (m + 1) j (E k)

theorem TbA.start {w W : World} {bo n m : Nat} {cs : Array Value} (E : Nat → Nat → Nat) (hf : Fr0 w W) (hb : W.heap[bo]? = some (Obj.cells cs 58 (0, 0))) (hs : cs.size = n + 1) (h0 : w.heap.size ≤ bo) : TbA w W bo E n m (n + 1) :=
  ⟨hf, h0, cs, hb, hs, fun k h1 h2 => by omega⟩

theorem TbA.row {w W : World} {bo n m k : Nat} {E : Nat → Nat → Nat} (h : TbA w W bo E n m (k + 1)) (hk : k ≤ n) (cz : Array Value) (hz : cz.size = m + 1) :
    TbJ w ((W.setCell ⟨bo, k, none⟩ (.slice (some ⟨W.heap.size, 0, none⟩) (m + 1) (m + 1))).alloc (.cells cz 3 (0, 0))) bo W.heap.size E n m k (m + 1) := by
  obtain ⟨cs, h1, h2, h3⟩ := h.ex
  have hlt := lt_of_block h1
  have hsz := h.fr.size
  have F1 : Fr (fun q => q = bo) W (W.setCell ⟨bo, k, none⟩ (.slice (some ⟨W.heap.size, 0, none⟩) (m + 1) (m + 1))) := fr_set1 (Fr.refl _ W) k _
  have F2 : Fr (fun q => q = bo) W ((W.setCell ⟨bo, k, none⟩ (.slice (some ⟨W.heap.size, 0, none⟩) (m + 1) (m + 1))).alloc (.cells cz 3 (0, 0))) := F1.alloc _
  have z1 : (W.setCell ⟨bo, k, none⟩ (.slice (some ⟨W.heap.size, 0, none⟩) (m + 1) (m + 1))).heap.size = W.heap.size := by simp [World.setCell]
  have b2 := alloc_at (W.setCell ⟨bo, k, none⟩ (.slice (some ⟨W.heap.size, 0, none⟩) (m + 1) (m + 1))) (.cells cz 3 (0, 0)) W.heap.size z1.symm
  have b1 : ((W.setCell ⟨bo, k, none⟩ (.slice (some ⟨W.heap.size, 0, none⟩) (m + 1) (m + 1))).alloc (.cells cz 3 (0, 0))).heap[bo]? = some (Obj.cells (cs.setIfInBounds k (.slice (some ⟨W.heap.size, 0, none⟩) (m + 1) (m + 1))) 58 (0, 0)) := by
    rw [alloc_lt _ _ _ (by rw [z1]; exact hlt)]
    exact setCell_block h1 k _
  have G : Fr0 w (W.setCell ⟨bo, k, none⟩ (.slice (some ⟨W.heap.size, 0, none⟩) (m + 1) (m + 1))) := h.fr.setCell _ _ h.hbo
  refine ⟨G.alloc _, h.hbo, hsz, by omega, ⟨_, b1, by simpa using h2, ?_, fun i h4 h5 => ?_⟩, ⟨cz, b2, hz, fun j h4 h5 => by omega⟩⟩
  · rw [Array.getElem?_setIfInBounds, if_pos rfl, if_pos (by omega)]
  · obtain ⟨bi, h6, h7, h8⟩ := h3 i (by omega) h5
    have := h8.lt
    have hne : bi ≠ bo := by
      intro e
      obtain ⟨cs', h9, _⟩ := h8
      rw [e] at h9
      exact ne_of_types h9 h1 (by decide) rfl
    refine ⟨bi, h6, by omega, ?_, h8.kept F2 hne⟩
    rw [Array.getElem?_setIfInBounds, if_neg (by omega)]; exact h7

theorem TbJ.cells {w W : World} {bo bk n m k j : Nat} {E : Nat → Nat → Nat} (h : TbJ w W bo bk E n m k j) (hk : k ≤ n) :
    W.cell? ⟨bo, k, none⟩ = some (.slice (some ⟨bk, 0, none⟩) (m + 1) (m + 1)) ∧ bo < W.heap.size ∧ bk < W.heap.size ∧ (∀ o, W.frozen? ⟨bk, o, none⟩ = false) ∧ ∀ i, i ≤ m → ∃ u, W.cell? ⟨bk, i, none⟩ = some u := by
  obtain ⟨cs, h1, h2, h3, h4⟩ := h.ex
  obtain ⟨cr, h5, h6, _⟩ := h.row
  exact ⟨by rw [cell_of_block h1]; exact h3, lt_of_block h1, lt_of_block h5, fun o => frozen_of_block h5 o, fun i hi => ⟨cr[i]'(by omega), by rw [cell_of_block h5]; exact Array.getElem?_eq_getElem _⟩⟩

theorem TbJ.below {w W : World} {bo bk n m k j : Nat} {E : Nat → Nat → Nat} (h : TbJ w W bo bk E n m k j) (hk : k < n) :
    ∃ bi, bi ≠ bk ∧ bi < W.heap.size ∧ W.cell? ⟨bo, k + 1, none⟩ = some (.slice (some ⟨bi, 0, none⟩) (m + 1) (m + 1)) ∧ IrB W bi (m + 1) 0 (E (k + 1)) := by
  obtain ⟨cs, h1, h2, h3, h4⟩ := h.ex
  obtain ⟨bi, h5, h6, h7, h8⟩ := h4 (k + 1) (by omega) (by omega)
  exact ⟨bi, h6, h8.lt, by rw [cell_of_block h1]; exact h7, h8⟩

theorem TbJ.put {w W : World} {bo bk n m k j : Nat} {E : Nat → Nat → Nat} (h : TbJ w W bo bk E n m k (j + 1)) (hj : j ≤ m) (v : Value) :
    TbJ w (W.setCell ⟨bk, j, none⟩ v) bo bk E n m k (j + 1) ∧ (W.setCell ⟨bk, j, none⟩ v).cell? ⟨bk, j, none⟩ = some v ∧ (v = .int .i64 (E k j : Nat) → TbJ w (W.setCell ⟨bk, j, none⟩ v) bo bk E n m k j) := by
  obtain ⟨r1, r2, r3⟩ := h.row.put (show j < m + 1 by omega) v
  have F : Fr (fun q => q = bk) W (W.setCell ⟨bk, j, none⟩ v) := fr_set1 (Fr.refl _ W) j v
  have ex : ∃ cs : Array Value, (W.setCell ⟨bk, j, none⟩ v).heap[bo]? = some (Obj.cells cs 58 (0, 0)) ∧ cs.size = n + 1 ∧ cs[k]? = some (.slice (some ⟨bk, 0, none⟩) (m + 1) (m + 1)) ∧ ∀ i, k < i → i ≤ n → ∃ bi, w.heap.size ≤ bi ∧ bi ≠ bk ∧ cs[i]? = some (.slice (some ⟨bi, 0, none⟩) (m + 1) (m + 1)) ∧ IrB (W.setCell ⟨bk, j, none⟩ v) bi (m + 1) 0 (E i) := by
    obtain ⟨cs, h1, h2, h3, h4⟩ := h.ex
    refine ⟨cs, F.kept h1 (fun e => h.ne e.symm), h2, h3, fun i h5 h6 => ?_⟩
    obtain ⟨bi, h7, h8, h9, h10⟩ := h4 i h5 h6
    exact ⟨bi, h7, h8, h9, h10.kept F h8⟩
  exact ⟨⟨h.fr.setCell _ _ h.hbk, h.hbo, h.hbk, h.ne, ex, r1⟩, r2, fun hv => ⟨h.fr.setCell _ _ h.hbk, h.hbo, h.hbk, h.ne, ex, r3 hv⟩⟩

theorem TbJ.kept0 {w W W' : World} {bo bk n m k j : Nat} {E : Nat → Nat → Nat} (h : TbJ w W bo bk E n m k j) (hf : Fr0 W W') : TbJ w W' bo bk E n m k j := by
  obtain ⟨cs, h1, h2, h3, h4⟩ := h.ex
  refine ⟨h.fr.trans hf, h.hbo, h.hbk, h.ne, ⟨cs, hf.kept h1, h2, h3, fun i h5 h6 => ?_⟩, h.row.kept hf id⟩
  obtain ⟨bi, h7, h8, h9, h10⟩ := h4 i h5 h6
  exact ⟨bi, h7, h8, h9, h10.kept hf id⟩

theorem TbJ.done {w W : World} {bo bk n m k : Nat} {E : Nat → Nat → Nat} (h : TbJ w W bo bk E n m k 0) : TbA w W bo E n m k := by
  obtain ⟨cs, h1, h2, h3, h4⟩ := h.ex
  refine ⟨h.fr, h.hbo, cs, h1, h2, fun i h5 h6 => ?_⟩
  by_cases c : i = k
  · subst c; exact ⟨bk, h.hbk, h3, h.row⟩
  · obtain ⟨bi, h7, _, h9, h10⟩ := h4 i (by omega) h6
    exact ⟨bi, h7, h9, h10⟩

theorem TbJ.more {w W : World} {bo bk n m k j : Nat} {E : Nat → Nat → Nat} (h : TbJ w W bo bk E n m k (j + 1)) (hj : j ≤ m) (hc : W.cell? ⟨bk, j, none⟩ = some (.int .i64 (E k j : Nat))) : TbJ w W bo bk E n m k j := by
  obtain ⟨cs, h1, h2, h3⟩ := h.row
  refine ⟨h.fr, h.hbo, h.hbk, h.ne, h.ex, ⟨cs, h1, h2, fun i h4 h5 => ?_⟩⟩
  by_cases c : j = i
  · subst c; rw [cell_of_block h1] at hc; exact hc
  · exact h3 i (by omega) h5

theorem sbs_at (a : ByteArray) (k : Nat) (h : k < a.size) : (sbs a).getD k 0 = (a[k].toNat : Int) := by
  unfold sbs
  rw [List.getD_eq_getElem?_getD, List.getElem?_map, List.getElem?_eq_getElem (by simpa using h)]
  rfl

/-- What Table leaves. -/
def TbPost (w : World) (E : Nat → Nat → Nat) (n m : Nat) (e : Ending) (w' : World) : Prop := ∃ bo, e = .returned (.slice (some ⟨bo, 0, none⟩) (n + 1) (n + 1)) ∧ TbA w w' bo E n m 0

end Go.Proofs.YtodmpcnpedpheaaDoor
set_option linter.unusedSimpArgs false
set_option linter.unusedVariables false
namespace Go.Proofs.YtodmpcnpedpheaaDoor
open Go.RowKit

set_option maxRecDepth 100000 in
set_option maxHeartbeats 4000000 in
theorem rf_Table (w : World) (a b : ByteArray) (E : Nat → Nat → Nat) (n m : Nat) (hn : a.size = n) (hm : b.size = m) (hn3 : n ≤ 400) (hm3 : m ≤ 400)
    (hE1 : ∀ j, j ≤ m → E n j = m - j) (hE2 : ∀ k, k ≤ n → E k m = n - k)
    (hE3 : ∀ k j, k < n → j < m → (E k j : Int) = if (sbs a).getD k 0 = (sbs b).getD j 0 then min (1 + min (E (k + 1) j : Int) (E k (j + 1))) (E (k + 1) (j + 1)) else 1 + min (E (k + 1) j : Int) (E k (j + 1))) (hEb : ∀ k j, k ≤ n → j ≤ m → E k j ≤ 1000) :
    Calls Tryd.prog 18 #[.string a, .string b] w (TbPost w E n m) := by
  obtain ⟨n1, hn1⟩ : ∃ n1, n + 1 = n1 := ⟨_, rfl⟩
  obtain ⟨m1, hm1⟩ : ∃ m1, m + 1 = m1 := ⟨_, rfl⟩
  have qn : IntKind.i64.wrap ((n : Int) + 1) = (n1 : Int) := by rw [show (n : Int) + 1 = (n1 : Int) by omega]; exact wrapI (by omega) (by omega)
  have qm : IntKind.i64.wrap ((m : Int) + 1) = (m1 : Int) := by rw [show (m : Int) + 1 = (m1 : Int) by omega]; exact wrapI (by omega) (by omega)
  have hmk1 := made_rowN rt_ints rfl info_ints (by omega) n1 (by omega)
  have hmk2 := made_rowN rt_int rfl info_int (by omega) m1 (by omega)
  have HN1 := Lib.hid hn1
  have HM1 := Lib.hid hm1
  have HE1 := Lib.hid hE1
  have HE2 := Lib.hid hE2
  have HE3 := Lib.hid hE3
  have HEB := Lib.hid hEb
  have HN := Lib.hid hn
  have HM := Lib.hid hm
  clear hn1 hm1 hE1 hE2 hE3 hEb
  go_enter Tryd.func18, Tryd.ntmps18
  go_wp2_with fail
  have hsz0 : (madeCells #[Value.slice none 0 0] n1).size = n + 1 := by rw [size_madeCells]; exact HN1.out.symm
  have hA0 := TbA.start (m := m) E ((Fr0.refl w).alloc (.cells (madeCells #[Value.slice none 0 0] n1) 58)) (alloc_at w (.cells (madeCells #[Value.slice none 0 0] n1) 58 (0, 0)) w.heap.size rfl) hsz0 (Nat.le_refl _)
  have HA0 := Lib.hid hA0
  clear hsz0 hA0
  generalize w.alloc (Obj.cells (madeCells #[Value.slice none 0 0] n1) 58) = W0 at *
  generalize hbo : w.heap.size = bo at HA0 ⊢
  clear hbo
  go_loopg [6] n1 (fun gk d wr => ∃ (x : Int), d = .int .i64 x ∧ x = (gk : Int) - 1 ∧ gk ≤ n1 ∧ TbA w wr bo E n m gk)
  case atStart => exact ⟨_, rfl, by have := HN1.out; omega, Nat.le_refl _, by have := HA0.out; have h1 := HN1.out; rw [← h1]; exact this⟩
  case round =>
    clear HA0
    obtain ⟨x, rfl, hx, hg, hA⟩ := hrel
    have HA := Lib.hid hA
    cases gk with
    | zero =>
      have hx0 : x < 0 := by omega
      have z1 : decide ((0 : Int) ≤ x) = false := decide_eq_false (by omega)
      clear hA hx
      go_wp2_with fail
      refine bodyPost_ret (v := .slice (some ⟨bo, 0, none⟩) n1 n1) (by simp [results, Tryd.results18, go_sem]) rfl ⟨bo, by rw [HN1.out], HA.out⟩
    | succ k =>
      obtain rfl : x = (k : Int) := by omega
      clear hx
      have hkn : k ≤ n := by have := HN1.out; omega
      have hk1 : k < n1 := by omega
      have hkc : (k : Int) < (n1 : Int) := by omega
      have hk0 : (0 : Int) ≤ (k : Int) := by omega
      have z1 : decide ((0 : Int) ≤ (k : Int)) = true := decide_eq_true hk0
      obtain ⟨cs, hcs, hcz, _⟩ := hA.ex
      have lb := lt_of_block hcs
      have fb := fun o => frozen_of_block hcs o
      obtain ⟨u0, hu0⟩ : ∃ u0, wr.cell? ⟨bo, k, none⟩ = some u0 := ⟨cs[k]'(by omega), by rw [cell_of_block hcs]; exact Array.getElem?_eq_getElem _⟩
      clear hcs hA hcz
      go_wp2_with fail
      have HJ0 := Lib.hid (HA.out.row hkn (madeCells #[Value.int IntKind.i64 0] m1) (by rw [size_madeCells]; exact HM1.out.symm))
      rw [HM1.out] at HJ0
      clear lb fb hu0 HA hmk1 hmk2
      generalize (wr.setCell ⟨bo, k, none⟩ (Value.slice (some ⟨wr.heap.size, 0, none⟩) m1 m1)).alloc (Obj.cells (madeCells #[Value.int IntKind.i64 0] m1) 3 (0, 0)) = W1 at HJ0 ⊢
      generalize wr.heap.size = bk at HJ0
      have qk : IntKind.i64.wrap ((k : Int) - 1) = (k : Int) - 1 := wrapI (by omega) (by omega)
      go_loopg [7] m1 (fun gj d wx => ∃ (y : Int), d = .int .i64 y ∧ y = (gj : Int) - 1 ∧ gj ≤ m1 ∧ TbJ w wx bo bk E n m k gj)
      case atStart => exact ⟨_, rfl, by have := HM1.out; omega, Nat.le_refl _, HJ0.out⟩
      case round =>
        clear HJ0
        obtain ⟨y, rfl, hy, hgj, hJ⟩ := hrel
        have HJ := Lib.hid hJ
        cases gk with
        | zero =>
          have hy0 : y < 0 := by omega
          have y1 : decide ((0 : Int) ≤ y) = false := decide_eq_false (by omega)
          clear hJ hy
          go_wp2_with fail
          go_roundg k
          case measure => omega
          case rel => exact ⟨_, rfl, rfl, by omega, HJ.out.done⟩
        | succ j =>
          obtain rfl : y = (j : Int) := by omega
          clear hy
          have hjm : j ≤ m := by have := HM1.out; omega
          have hj1 : j < m1 := by omega
          have hjc : (j : Int) < (m1 : Int) := by omega
          have hj0 : (0 : Int) ≤ (j : Int) := by omega
          have y1 : decide ((0 : Int) ≤ (j : Int)) = true := decide_eq_true hj0
          have qj : IntKind.i64.wrap ((j : Int) - 1) = (j : Int) - 1 := wrapI (by omega) (by omega)
          obtain ⟨e0, lbo, lbk, fk, hold⟩ := hJ.cells hkn
          obtain ⟨u0, hu0⟩ := hold j hjm
          rw [HM1.out] at e0
          clear hold hJ
          by_cases ckn : k = n
          · subst ckn
            have v1 : IntKind.i64.wrap ((m : Int) - (j : Int)) = ((E k j : Nat) : Int) := by rw [HE1.out j hjm, show (m : Int) - (j : Int) = ((m - j : Nat) : Int) by omega]; exact wrapI (by omega) (by omega)
            go_wp2_with fail
            go_roundg j
            case measure => omega
            case rel => exact ⟨_, rfl, rfl, by omega, (HJ.out.put hjm _).2.2 rfl⟩
          · have ckl : k < n := by omega
            have ck1 : ((k : Int) == (n : Int)) = false := beq_eq_false_iff_ne.2 (by omega)
            by_cases cjm : j = m
            · subst cjm
              have v1 : IntKind.i64.wrap ((n : Int) - (k : Int)) = ((E k j : Nat) : Int) := by rw [HE2.out k hkn, show (n : Int) - (k : Int) = ((n - k : Nat) : Int) by omega]; exact wrapI (by omega) (by omega)
              go_wp2_with fail
              go_roundg j
              case measure => omega
              case rel => exact ⟨_, rfl, rfl, by omega, (HJ.out.put hjm _).2.2 rfl⟩
            · have cjl : j < m := by omega
              have cj1 : ((j : Int) == (m : Int)) = false := beq_eq_false_iff_ne.2 (by omega)
              obtain ⟨bi, hbi, lbi, e1, hI⟩ := HJ.out.below ckl
              rw [HM1.out] at e1
              have r1 := hI.cell (Nat.zero_le j) (by omega)
              have r3 := hI.cell (Nat.zero_le (j + 1)) (by omega)
              have r2 := HJ.out.row.cell (Nat.le_refl (j + 1)) (by omega)
              have hv := HE3.out k j ckl cjl
              have hb1 := HEB.out (k + 1) j (by omega) (by omega)
              have hb2 := HEB.out k (j + 1) (by omega) (by omega)
              have hb3 := HEB.out (k + 1) (j + 1) (by omega) (by omega)
              obtain ⟨k1, hk1'⟩ : ∃ k1, k + 1 = k1 := ⟨_, rfl⟩
              obtain ⟨j1, hj1'⟩ : ∃ j1, j + 1 = j1 := ⟨_, rfl⟩
              have t1 : IntKind.i64.wrap ((k : Int) + 1) = (k1 : Int) := by rw [show (k : Int) + 1 = (k1 : Int) by omega]; exact wrapI (by omega) (by omega)
              have t2 : IntKind.i64.wrap ((j : Int) + 1) = (j1 : Int) := by rw [show (j : Int) + 1 = (j1 : Int) by omega]; exact wrapI (by omega) (by omega)
              have t3 : (k1 : Int) < (n1 : Int) := by have := HN1.out; omega
              have t4 : (j1 : Int) < (m1 : Int) := by have := HM1.out; omega
              have t5 : (0 : Int) ≤ (k1 : Int) := by omega
              have t6 : (0 : Int) ≤ (j1 : Int) := by omega
              have t7 : k1 < n1 := by omega
              have t8 : j1 < m1 := by omega
              rw [hk1', hj1'] at hv
              rw [hk1'] at e1 r1 hb1
              rw [hj1'] at r2 hb2
              rw [hk1', hj1'] at r3 hb3
              generalize E k1 j = P at *
              generalize E k j1 = Q at *
              obtain ⟨R, hR⟩ : ∃ R, E k1 j1 = R := ⟨_, rfl⟩
              rw [hR] at hv hb3 r3
              have HR := Lib.hid hR
              clear hR
              have HV := Lib.hid hv
              have HK1 := Lib.hid hk1'
              have HJ1 := Lib.hid hj1'
              have HI := Lib.hid hI
              clear hv hk1' hj1' hI
              obtain ⟨S, hS⟩ : ∃ S : Nat, 1 + min P Q = S := ⟨_, rfl⟩
              have HS := Lib.hid hS
              clear hS
              go_upto_region 9 with fail
              go_cut [54] (fun u wx => TbJ w wx bo bk E n m k (j + 1) ∧ wx.cell? ⟨bk, j, none⟩ = some (.int .i64 (S : Nat)) ∧ IrB wx bi (m + 1) 0 (E k1) ∧ bi < wx.heap.size ∧ wx.cell? ⟨bo, k1, none⟩ = some (.slice (some ⟨bi, 0, none⟩) m1 m1))
              case first =>
                have fin : Hid (∀ W, Fr (fun q => q = bk) wr W → bi < W.heap.size ∧ IrB W bi (m + 1) 0 (E k1) ∧ W.cell? ⟨bo, k1, none⟩ = some (.slice (some ⟨bi, 0, none⟩) m1 m1)) := fun W hW => ⟨Nat.lt_of_lt_of_le lbi hW.size, (by have := HI.out.kept hW hbi; rw [HK1.out] at this; exact this), (by rw [hW.cell ⟨bo, k1, none⟩ lbo (fun e => HJ.out.ne e.symm)]; exact e1)⟩
                refine region_still_tail 24 (by kernel_rfl) (by kernel_rfl) ?_
                simp only [List.take_succ_cons, List.take_zero, List.drop_succ_cons, List.drop_zero]
                by_cases cpq : P ≤ Q
                · have s1 : (P : Int) ≤ (Q : Int) := by omega
                  have s2 : IntKind.i64.wrap (1 + (P : Int)) = (S : Int) := by have := HS.out; rw [show 1 + (P : Int) = (S : Int) by omega]; exact wrapI (by omega) (by omega)
                  iterate 24 still_step
                  refine wpStill_nil ?_
                  go_wp2_with fail
                  go_meet
                  obtain ⟨p1, p2, _⟩ := HJ.out.put hjm (.int .i64 (S : Nat))
                  obtain ⟨f1, f2, f3⟩ := fin.out _ (fr_set1 (Fr.refl (fun q => q = bk) wr) j (.int .i64 (S : Nat))).drew
                  exact ⟨p1.kept0 (Fr0.refl _).drew, p2, f2, f1, f3⟩
                · have s1 : (Q : Int) ≤ (P : Int) := by omega
                  have s1' : ¬ ((P : Int) ≤ (Q : Int)) := by omega
                  have s2 : IntKind.i64.wrap (1 + (Q : Int)) = (S : Int) := by have := HS.out; rw [show 1 + (Q : Int) = (S : Int) by omega]; exact wrapI (by omega) (by omega)
                  iterate 24 still_step
                  refine wpStill_nil ?_
                  go_wp2_with fail
                  go_meet
                  obtain ⟨p1, p2, _⟩ := HJ.out.put hjm (.int .i64 (S : Nat))
                  obtain ⟨f1, f2, f3⟩ := fin.out _ (fr_set1 (Fr.refl (fun q => q = bk) wr) j (.int .i64 (S : Nat))).drew
                  exact ⟨p1.kept0 (Fr0.refl _).drew, p2, f2, f1, f3⟩
              case rest =>
              obtain ⟨hJ2, x1, hI2, lbi2, x2⟩ := hcut
              have HJ2 := Lib.hid hJ2
              have HI2 := Lib.hid hI2
              obtain ⟨y0, lbo2, lbk2, fk2, _⟩ := hJ2.cells hkn
              rw [HM1.out] at y0
              have y3 := hI2.cell (j := j1) (Nat.zero_le _) (by have := HM1.out; omega)
              rw [HR.out] at y3
              rename World => W2
              clear hJ2 hI2 e0 e1 r1 r2 r3 lbo lbk fk lbi hu0 HJ HI
              go_upto_region 10 with fail
              obtain ⟨cb, hcb⟩ : ∃ cb : Bool, decide ((sbs a).getD k 0 = (sbs b).getD j 0) = cb := ⟨_, rfl⟩
              have HCB := Lib.hid hcb
              clear hcb
              go_cut [61] (fun u wx => u = .bool cb ∧ Fr0 W2 wx)
              case first =>
                go_quiet (fail)
                go_wp2_with fail
                go_meet
                refine ⟨?_, (Fr0.refl W2).drewN _⟩
                have g1 := sbs_at a k (by have := HN.out; omega)
                have g2 := sbs_at b j (by have := HM.out; omega)
                have g3 := HCB.out
                rw [g1, g2] at g3
                rw [← g3]
                exact congrArg Value.bool (by by_cases c : (a[k].toNat : Int) = (b[j].toNat : Int) <;> simp [c])
              case rest =>
              obtain ⟨rfl, hf2⟩ := hcut
              rename World => W3
              have HJ3 := Lib.hid (HJ2.out.kept0 hf2)
              have HI3 := Lib.hid (HI2.out.kept hf2 id)
              have x3 := (hf2.cell bk j lbk2).trans x1
              have x4 := (hf2.cell bo k1 lbo2).trans x2
              have lbi3 : bi < W3.heap.size := Nat.lt_of_lt_of_le lbi2 (Fr.size hf2)
              clear hf2 HJ2 HI2 x1 x2 lbi2 lbo2 lbk2 fk2 y0 y3
              obtain ⟨y0, lbo3, lbk3, fk3, _⟩ := HJ3.out.cells hkn
              rw [HM1.out] at y0
              have y3 := HI3.out.cell (j := j1) (Nat.zero_le _) (by have := HM1.out; omega)
              rw [HR.out] at y3
              go_upto_if 61 with fail
              cases cb with
              | true =>
                have hv2 := HV.out
                rw [if_pos (of_decide_eq_true HCB.out)] at hv2
                have hs2 := HS.out
                go_upto_region 11 with fail
                refine region_still_tail 23 (by kernel_rfl) (by kernel_rfl) ?_
                simp only [List.take_succ_cons, List.take_zero, List.drop_succ_cons, List.drop_zero]
                by_cases csr : S ≤ R
                · have s1 : (S : Int) ≤ (R : Int) := by omega
                  have he : S = E k j := by omega
                  clear hv2 hs2
                  iterate 23 still_step
                  refine wpStill_nil ?_
                  go_wp2_with fail
                  go_roundg j
                  case measure => omega
                  case rel => exact ⟨_, rfl, rfl, by omega, ((HJ3.out.put hjm _).2.2 rfl).kept0 (Fr0.refl _).drew⟩
                · have s1 : (R : Int) ≤ (S : Int) := by omega
                  have s1' : ¬ ((S : Int) ≤ (R : Int)) := by omega
                  have he : R = E k j := by omega
                  clear hv2 hs2
                  iterate 23 still_step
                  refine wpStill_nil ?_
                  go_wp2_with fail
                  go_roundg j
                  case measure => omega
                  case rel => exact ⟨_, rfl, rfl, by omega, ((HJ3.out.put hjm _).2.2 rfl).kept0 (Fr0.refl _).drew⟩
              | false =>
                have hv2 := HV.out
                rw [if_neg (of_decide_eq_false HCB.out)] at hv2
                have hs2 := HS.out
                go_wp2_with fail
                go_roundg j
                case measure => omega
                case rel => exact ⟨_, rfl, rfl, by omega, HJ3.out.more hjm (by rw [x3, show E k j = S by omega])⟩

theorem rf_TableE (w : World) (a b : ByteArray) (ha : a.size ≤ 400) (hb : b.size ≤ 400) :
    Calls Tryd.prog 18 #[.string a, .string b] w (TbPost w (fun k j => edp (sbs a) (sbs b) k j) a.size b.size) := by
  have la := sbs_len a
  have lb := sbs_len b
  refine rf_Table w a b _ _ _ rfl rfl ha hb (fun j hj => ?_) (fun k hk => ?_) (fun k j hk hj => ?_) (fun k j hk hj => ?_)
  · show edp (sbs a) (sbs b) a.size j = _
    rw [edp_endA _ _ (by omega)]; omega
  · show edp (sbs a) (sbs b) k b.size = _
    rw [edp_endB _ _ (by omega)]; omega
  · exact edp_ref (sbs a) (sbs b) (by omega) (by omega)
  · show edp (sbs a) (sbs b) k j ≤ 1000
    have := (ed_gap ((sbs a).drop k) ((sbs b).drop j)).2.2
    unfold edp
    simp only [List.length_drop] at this
    omega

set_option maxRecDepth 100000 in
set_option maxHeartbeats 1000000 in
theorem rf_Distance (w : World) (a b : ByteArray) (ha : a.size ≤ 400) (hb : b.size ≤ 400) :
    Calls Tryd.prog 10 #[.string a, .string b] w fun e w' => e = .returned (.int .i64 (ed (sbs a) (sbs b) : Nat)) ∧ Fr0 w w' := by
  have CT := Lib.hid (rf_TableE w a b ha hb)
  obtain ⟨n1, hn1⟩ : ∃ n1, a.size + 1 = n1 := ⟨_, rfl⟩
  obtain ⟨m1, hm1⟩ : ∃ m1, b.size + 1 = m1 := ⟨_, rfl⟩
  go_enter Tryd.func10, Tryd.ntmps10
  go_wp2_with fail
  refine CT.out.mono ?_
  rintro e w2 ⟨bo, rfl, hA⟩
  obtain ⟨cs, h1, h2, h3⟩ := hA.ex
  obtain ⟨bk, h4, h5, h6⟩ := h3 0 (Nat.le_refl _) (by omega)
  have e0 : w2.cell? ⟨bo, 0, none⟩ = some (.slice (some ⟨bk, 0, none⟩) (b.size + 1) (b.size + 1)) := by rw [cell_of_block h1]; exact h5
  have e1 := h6.cell (Nat.le_refl 0) (by omega)
  have hF := Lib.hid hA.fr
  have q1 : (0 : Int) < (n1 : Int) := by omega
  have q2 : (0 : Int) < (m1 : Int) := by omega
  have q3 : 0 < n1 := by omega
  have q4 : 0 < m1 := by omega
  rw [hm1] at e0
  rw [hn1]
  have e1' : w2.cell? ⟨bk, 0, none⟩ = some (.int .i64 (ed (sbs a) (sbs b) : Nat)) := e1
  have l1 := lt_of_block h1
  have l2 := h6.lt
  clear h1 h2 h3 h4 h5 h6 hA e1 hn1 hm1 CT
  obtain ⟨d, hd⟩ : ∃ d, ed (sbs a) (sbs b) = d := ⟨_, rfl⟩
  rw [hd] at e1'
  have HD := Lib.hid hd
  clear hd
  go_wp2_with fail
  go_ret
  exact ⟨congrArg (fun n : Nat => Ending.returned (.int .i64 n)) HD.out.symm, hF.out⟩

end Go.Proofs.YtodmpcnpedpheaaDoor
set_option linter.unusedSimpArgs false
set_option linter.unusedVariables false
namespace Go.Proofs.YtodmpcnpedpheaaDoor
open Go.RowKit

@[go_sem] theorem assert_errno (n : Int) (w : World) : (Instr.typeAssert (.iface 38 (.int .i64 n)) 34 38 true).run Tryd.prog w = .ok (.tuple #[.int .i64 n, .bool true]) w := by kernel_rfl

set_option maxRecDepth 100000 in
set_option maxHeartbeats 400000 in
theorem base_Num (n : Int) (w : World) :
    Calls Tryd.prog 21 #[.iface 38 (.int .i64 n)] w fun e w' => e = .returned (.int .i64 n) ∧ w = w' := by
  go_enter Tryd.func21, Tryd.ntmps21
  go_wp2_with fail
  go_ret
  exact ⟨rfl, rfl⟩

set_option maxRecDepth 100000 in
set_option maxHeartbeats 400000 in
theorem base_Num_nil (w : World) :
    Calls Tryd.prog 21 #[.nilIface] w fun e w' => e = .returned (.int .i64 0) ∧ w = w' := by
  go_enter Tryd.func21, Tryd.ntmps21
  go_wp2_with fail
  go_ret
  exact ⟨rfl, rfl⟩

set_option maxRecDepth 100000 in
set_option maxHeartbeats 400000 in
theorem base_Is (n : Int) (w : World) (hn : n ≠ 0) :
    Calls Tryd.prog 13 #[.iface 38 (.int .i64 n), .int .i64 n] w fun e w' => e = .returned (.bool true) ∧ w = w' := by
  have h1 : (n == n) = true := by simp
  have h2 : (n != 0) = true := by simpa using hn
  go_enter Tryd.func13, Tryd.ntmps13
  go_wp2_with fail
  refine (base_Num _ _).mono ?_
  rintro e w' ⟨rfl, rfl⟩
  go_wp2_with fail
  go_ret
  exact ⟨by simp, rfl⟩

end Go.Proofs.YtodmpcnpedpheaaDoor
set_option linter.unusedSimpArgs false
set_option linter.unusedVariables false
namespace Go.Proofs.YtodmpcnpedpheaaDoor
open Go.RowKit

set_option maxRecDepth 100000 in
set_option maxHeartbeats 4000000 in
theorem law_DiffDistances {w : World} (hdeb : Deb w.heap.size w) (a b : ByteArray) :
    Calls Tryd.prog 3 #[.string a, .string b] w fun e w' => e = .returned (.bool true) ∧ Fr0 w w' := by
  have CP := Lib.hid (law_Parser hdeb)
  clear hdeb
  go_enter Tryd.func3, Tryd.ntmps3
  go_wp2_with fail
  refine CP.out.mono ?_
  rintro e w1 ⟨pp, tp, p, mb, L, T, rfl, hp, hf, hl⟩
  have HP := Lib.hid hp
  have HF := Lib.hid hf
  clear hp hf CP
  go_wp2_with fail
  refine (law_cut a 300 (by omega) w1).mono ?_
  rintro e w2 ⟨ta, rfl, ea, rfl⟩
  go_wp2_with fail
  refine (law_cut b 300 (by omega) w1).mono ?_
  rintro e w2 ⟨tb, rfl, eb, rfl⟩
  have hla : ta.size ≤ 300 := by rw [← sbs_len, ea, List.length_take]; omega
  have hlb : tb.size ≤ 300 := by rw [← sbs_len, eb, List.length_take]; omega
  clear ea eb
  have C1 := Lib.hid (law_two HP.out ta tb (by omega) (by omega) (by omega) (by omega))
  clear HP
  go_wp2_with fail
  refine C1.out.mono ?_
  rintro e w2 ⟨L2, T2, x, y, rfl, hp2, hk2, hg2, sx, sy, ex, ey⟩
  have HP2 := Lib.hid hp2
  have HF2 := Lib.hid (Kx.all0 HF.out hk2)
  clear hk2 C1 hg2 hp2 HF
  have lA := sbs_len ta
  have lB := sbs_len tb
  have CST : Hid (∀ W T', Pq w.heap.size W pp tp p mb 1048576 L2 T' → Calls Tryd.prog 8 #[.pointer (some ⟨pp, 0, none⟩)] W fun e w' => e = .returned (.pointer (some ⟨p, 0, none⟩)) ∧ W = w') := fun W T' h => sig_Store h
  have CLN : Hid (∀ W T', Pq w.heap.size W pp tp p mb 1048576 L2 T' → Calls Tryd.prog 9 #[.pointer (some ⟨p, 0, none⟩)] W fun e w' => e = .returned (.int .i64 L2.length) ∧ W = w') := fun W T' h => sto_LenQ h.st
  have CRD : Hid (∀ W, Calls Tryd.prog 10 #[.string ta, .string tb] W fun e w' => e = .returned (.int .i64 (ed (sbs ta) (sbs tb) : Nat)) ∧ Fr0 W w') := fun W => rf_Distance W ta tb (by omega) (by omega)
  have CDD : Hid (∀ W T', Pq w.heap.size W pp tp p mb 1048576 L2 T' → Calls Tryd.prog 11 #[.pointer (some ⟨pp, 0, none⟩), .int .i64 x, .int .i64 y] W (KyPost w.heap.size W pp tp p mb 1048576 L2 (distV (sbs ta) (sbs tb)))) := fun W T' h => df_Distance h sx sy ex ey (by omega) (by omega)
  have CDR : Hid (∀ W T', Pq w.heap.size W pp tp p mb 1048576 L2 T' → Calls Tryd.prog 12 #[.pointer (some ⟨pp, 0, none⟩), .int .i64 x, .int .i64 y] W (KyPost w.heap.size W pp tp p mb 1048576 L2 (ratioV (sbs ta) (sbs tb)))) := fun W T' h => df_Ratio h sx sy ex ey (by omega) (by omega)
  have hgap := ed_gap (sbs ta) (sbs tb)
  unfold distV at CDD
  unfold ratioV at CDR
  rw [edp_all] at CDD CDR
  rw [lA, lB] at CDR hgap
  clear sx sy ex ey lA lB
  generalize ed (sbs ta) (sbs tb) = d at *
  obtain ⟨la, hla2⟩ : ∃ la, ta.size = la := ⟨_, rfl⟩
  obtain ⟨lb, hlb2⟩ : ∃ lb, tb.size = lb := ⟨_, rfl⟩
  rw [hla2] at hla hgap CDR
  rw [hlb2] at hlb hgap CDR
  generalize L2.length = nL at *
  go_wp2_with fail
  refine (CST.out _ _ HP2.out).mono ?_
  rintro e w3 ⟨rfl, rfl⟩
  go_wp2_with fail
  refine (CLN.out _ _ HP2.out).mono ?_
  rintro e w3 ⟨rfl, rfl⟩
  go_wp2_with fail
  refine (CRD.out _).mono ?_
  rintro e w3 ⟨rfl, f3⟩
  have HP3 := Lib.hid (HP2.out.kept0 f3)
  have HF3 := Lib.hid (HF2.out.trans f3)
  clear f3 HP2 HF2 CRD
  by_cases hD : d ≤ 256
  · rw [if_pos hD] at CDD CDR
    have z1 : decide ((256 : Int) < (d : Int)) = false := decide_eq_false (by omega)
    have q1 : IntKind.i64.wrap ((la : Int) + (lb : Int)) = (la : Int) + (lb : Int) := wrapI (by omega) (by omega)
    have q2 : IntKind.i64.wrap ((la : Int) + (lb : Int) - (d : Int)) = (la : Int) + (lb : Int) - (d : Int) := wrapI (by omega) (by omega)
    have q3 : (0 : Int) ≤ (la : Int) + (lb : Int) - (d : Int) := by omega
    have q4 : IntKind.i64.wrap (((la : Int) + (lb : Int) - (d : Int)).tdiv 2) = ((la : Int) + (lb : Int) - (d : Int)) / 2 := by
      rw [Int.tdiv_eq_ediv_of_nonneg q3]
      exact wrapI (by omega) (by omega)
    clear hgap hla hlb
    go_wp2_with fail
    refine (CDD.out _ _ HP3.out).mono ?_
    rintro e w4 ⟨T4, rfl, hp4, hk4⟩
    have HP4 := Lib.hid hp4
    have HF4 := Lib.hid (Kx.all0 HF3.out hk4)
    clear hp4 hk4 HP3 HF3 CDD
    go_wp2_with fail
    refine (CDR.out _ _ HP4.out).mono ?_
    rintro e w5 ⟨T5, rfl, hp5, hk5⟩
    have HP5 := Lib.hid hp5
    have HF5 := Lib.hid (Kx.all0 HF4.out hk5)
    clear hp5 hk5 HP4 HF4 CDR
    go_wp2_with fail
    refine (CST.out _ _ HP5.out).mono ?_
    rintro e w6 ⟨rfl, rfl⟩
    go_wp2_with fail
    refine (CLN.out _ _ HP5.out).mono ?_
    rintro e w6 ⟨rfl, rfl⟩
    clear CST CLN
    go_wp2_with fail
    go_ret
    exact ⟨rfl, HF5.out⟩
  · rw [if_neg hD] at CDD CDR
    have z1 : decide ((256 : Int) < (d : Int)) = true := decide_eq_true (by omega)
    have e9 : errV 9 = .iface 38 (.int .i64 9) := rfl
    rw [e9] at CDD CDR
    clear hgap hla hlb e9
    go_wp2_with fail
    refine (CDD.out _ _ HP3.out).mono ?_
    rintro e w4 ⟨T4, rfl, hp4, hk4⟩
    have HP4 := Lib.hid hp4
    have HF4 := Lib.hid (Kx.all0 HF3.out hk4)
    clear hp4 hk4 HP3 HF3 CDD
    go_wp2_with fail
    refine (CDR.out _ _ HP4.out).mono ?_
    rintro e w5 ⟨T5, rfl, hp5, hk5⟩
    have HP5 := Lib.hid hp5
    have HF5 := Lib.hid (Kx.all0 HF4.out hk5)
    clear hp5 hk5 HP4 HF4 CDR
    go_wp2_with fail
    refine (CST.out _ _ HP5.out).mono ?_
    rintro e w6 ⟨rfl, rfl⟩
    go_wp2_with fail
    refine (CLN.out _ _ HP5.out).mono ?_
    rintro e w6 ⟨rfl, rfl⟩
    clear CST CLN
    go_wp2_with fail
    refine (base_Is 9 _ (by omega)).mono ?_
    rintro e w6 ⟨rfl, rfl⟩
    go_wp2_with fail
    refine (base_Is 9 _ (by omega)).mono ?_
    rintro e w6 ⟨rfl, rfl⟩
    go_wp2_with fail
    go_ret
    exact ⟨rfl, HF5.out⟩

end Go.Proofs.YtodmpcnpedpheaaDoor
set_option linter.unusedVariables false
set_option linter.unusedSimpArgs false
namespace Go.Proofs.YtodmpcnpedpheaaDoor
open Go.ChangeShapes Go.WideShapes Go.ChangeAt Go.WideMaps Go.WideElems Go.RowKit Go.Deep Go.ChangeMaps

abbrev laidD : List (String × DataW Unit) := [("math/bits.deBruijn64tab", Rows.laid_math_bits_deBruijn64tab)]
theorem gDeb : Tryd.prog.globalNamed "math/bits.deBruijn64tab" = some 0 := by kernel_rfl
theorem tDeb : (Tryd.prog.globals[0]?).map (·.type) = some 188 := by kernel_rfl

theorem debData : (Rows.laid_math_bits_deBruijn64tab : DataW Unit) = .agg (Lib.deBruijn64tab.map fun (n : Nat) => DataW.lit (.int .u8 (n : Int))) := by kernel_rfl

/-- The door's own heap meets the condition. -/
theorem door_met (os : Os) (args : Array Value) : laidMetH Tryd.prog laidD ((World.doorLaid Tryd.prog 400 os).forCall (fun _ _ => 0) ⟨#[], args, []⟩).memory :=
  laidMetH_of_parts3 (fuel := 80) (laidMet_of_run' 80 (by kernel_rfl) (by kernel_rfl)) (by kernel_rfl) (by kernel_rfl)

theorem of_laid {W : World} (h : laidMetH Tryd.prog laidD W) : Deb W.heap.size W := by
  rw [MakeChecks.laidMetH_plain _ _ _ (by kernel_rfl)] at h
  obtain ⟨ps, ⟨g0, t0, cs0, f0, p0, q0, hg0, ht0, hv0, hd0, _⟩, _⟩ := h
  obtain rfl := Option.some.inj (gDeb.symm.trans hg0)
  obtain rfl := Option.some.inj (tDeb.symm.trans ht0)
  obtain ⟨xs, m1, rfl, hx1, hlen, hn3, hel⟩ := DataW.trod_array Tryd.underlying188 hd0
  have c5 : Tryd.prog.cellsOf 5 = 1 := by kernel_rfl
  rw [debData] at hx1
  simp only [Prod.mk.injEq, DataW.agg.injEq] at hx1
  have hxs := hx1.1
  have key : TabAt 0 Lib.deBruijn64tab W := by
    intro j hj
    have hj64 : j < 64 := hj
    have h1 := hel j hj64
    rw [c5, Nat.mul_one] at h1
    have hjx : j < xs.length := by rw [hn3]; exact hj64
    rw [List.getElem?_eq_getElem hjx] at h1
    obtain ⟨k, e1, e2, _⟩ := DataW.trod_int Tryd.underlying5 h1
    have e3 : (xs.map (·.1))[j]? = some (DataW.lit (.int .u8 k)) := by rw [List.getElem?_map, List.getElem?_eq_getElem hjx, e2]; rfl
    rw [← hxs, List.getElem?_map, List.getElem?_eq_getElem hj] at e3
    simp only [Option.map_some, Option.some.injEq, DataW.lit.injEq, Lit.int.injEq, true_and] at e3
    have e4 : cs0[j]? = some (.int .u8 k) := by
      have := congrArg (fun l => l[0]?) e1
      simpa using this
    rw [World.var?_cell hg0 hv0 j, e4, ← e3, List.getD_eq_getElem?_getD, List.getElem?_eq_getElem hj]
    rfl
  exact ⟨World.block_lt_of_cell? W _ (key 0 (by decide)), key⟩

theorem own_door : ownKnob Tryd.prog.godebug = none := by kernel_rfl

set_option maxRecDepth 100000 in
theorem diffDistances_lifted (os : Os) (started : os.Started) (H : Type) (enc : TypeId × Value → H) :
    ReturnsInHanded {} Tryd.checked os 3 .any (fun w args => (Rows.diffDistancesSpec.pre enc Tryd.prog Tryd.f3 [] false w args ∧ laidMetH Tryd.prog laidD w) ∧ sizedMet enc Tryd.prog Tryd.f3 (OpenSpec.ofChange Rows.diffDistancesSpec) false w args)
      (Rows.diffDistancesSpec.post enc Tryd.prog Tryd.f3 false true false false) := by
  refine returnsInHanded_of_change_and (C := Tryd.checked) (X := fun w _ => laidMetH Tryd.prog laidD w) (fun _ _ _ hh h => h.of_heap hh) own_door started (by kernel_rfl) Tryd.func3
    (ChangeSpec.witness_shaped (enc := enc) (C := Tryd.checked) (os := os) (X := fun w _ => laidMetH Tryd.prog laidD w) false (World.doorLaid Tryd.prog 400 os) #[.string ByteArray.empty, .string ByteArray.empty] 8 rfl (World.shaped_of_RefB (by kernel_rfl) (by kernel_rfl)) (by kernel_rfl) (by kernel_rfl) (by kernel_rfl) (door_met os _)) ?_
  intro W base args ds gs before hval0 hW _ _ hL _
  have hval : ∀ (j : Nat) t v, Tryd.f3.params[j]? = some t → args[j]? = some v → Value.okWide Tryd.prog W .any base t v := hval0
  have hW' := hW
  obtain ⟨p, q, hA0, hV, rfl, hfz, hnd⟩ := hW
  have hA : DataW.TrodAll enc Tryd.prog W 0 (fun _ => true) true Tryd.f3.params.toList args.toList ds p := hA0
  rw [Tryd.params3] at hA hval
  obtain ⟨v0, vs0, d0, ds0, p0, q0, hargs, rfl, rfl, h0, r0⟩ := trodAll_cons hA
  obtain ⟨v1, vs1, d1, ds1, p1, q1, rfl, rfl, rfl, h1, r1⟩ := trodAll_cons r0
  obtain ⟨rfl, rfl, rfl⟩ := trodAll_nil r1
  obtain rfl : args = #[v0, v1] := by cases args; simp_all
  obtain ⟨rfl, rfl⟩ := trodVars_none hV
  obtain ⟨s0, rfl, rfl, rfl, hs0⟩ := open_string Tryd.underlying9 (hval 0 9 v0 rfl rfl) h0
  obtain ⟨s1, rfl, rfl, rfl, hs1⟩ := open_string Tryd.underlying9 (hval 1 9 v1 rfl rfl) h1
  have hdeb := of_laid hL
  clear hA0 hval0
  simp only [List.append_nil] at hW'
  refine (law_DiffDistances hdeb s0 s1).mono fun e W' ⟨he, hg⟩ => ?_
  subst he
  exact ⟨_, rfl, _, _, _, [], [], [], hW', trodAll_cons_mk (shut_bool Tryd.underlying4 _) trodAll_mk0, (trodAll_cons_mk (shut_string Tryd.underlying9 hs0) (trodAll_cons_mk (shut_string Tryd.underlying9 hs1) trodAll_mk0)), rfl, hg.below.frame _, fun h => by cases h⟩

theorem diffDistances_holds : Rows.DiffDistancesSaid :=
  OpenClaim.holds_of_wide 3 Tryd.f3 rfl rfl rfl rfl rfl rfl rfl ⟨rfl, rfl, rfl, rfl, rfl⟩ rfl rfl rfl rfl rfl (by kernel_rfl) Tryd.func3 (by kernel_rfl)
    (of_decide_eq_true (by kernel_rfl)) (by unfold Func.isWrapper; first | (rw [if_pos (by decide +kernel)]; kernel_rfl) | (rw [if_neg (by decide +kernel)]; exact ⟨rfl, rfl⟩))
    (fun os started H enc _ => diffDistances_lifted os started H enc)

theorem diffDistances_card : Rows.DiffDistancesCardSaid :=
  Claim7.holds_tied_plain_at .later [] [.data] true (true, "8c6e553a1ff8f6c2b6c3059395bdd4d4ae9a38839c5ed52244d8941663400946") true
    diffDistances_holds (fun _ h => by cases h) (by kernel_rfl) (fun _ h => by cases h) diffDistances_row_tie rfl ⟨rfl, rfl⟩ (by kernel_rfl) rfl
    (fun f fn hf hfn => by
      obtain rfl : f = 3 := Option.some.inj ((show Tryd.prog.funcNamed "evergreen/evergreenlaw40.DiffDistances" = some 3 by kernel_rfl).symm.trans hf) |>.symm
      obtain rfl : fn = Tryd.f3 := (Option.some.inj (Tryd.func3.symm.trans hfn)).symm
      exact ⟨by kernel_rfl, fun j t ht => by
        rw [Tryd.params3] at ht
        have hm : t ∈ [9, 9] := by simpa using Array.mem_of_getElem? ht
        have hall : ([9, 9].all fun u => !Tryd.prog.wantsStandIn u) = true := by kernel_rfl
        exact (show Tryd.prog.wantsStandIn t = false by simpa using List.all_eq_true.1 hall t hm)⟩)
    (by kernel_rfl)

end Go.Proofs.YtodmpcnpedpheaaDoor

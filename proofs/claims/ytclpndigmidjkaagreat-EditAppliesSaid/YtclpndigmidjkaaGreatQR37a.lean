/- Letters that remember where they were, in memory; the walks of evergreenref37's Cells and Text. -/
import Derived.Test.YtclpndigmidjkaaGreatQL37a
import Derived.Test.YtclpndigmidjkaaGreatQPaA
set_option linter.unusedSimpArgs false
set_option linter.unusedVariables false
namespace Go.Proofs.YtclpndigmidjkaaGreat
open Go.RowKit

/-- A slice of structs that the call made. -/
structure OwnG {α : Type} (vals : α → List Value) (T : TypeId) (size : Nat) (w0 w : World) (v : Value) (xs : List α) : Prop where
  row : w.ownsRow w0.heap.size T size v xs.length (xs.flatMap vals)
  fr : Fr0 w0 w

theorem OwnG.nil {α : Type} (vals : α → List Value) (T : TypeId) (size : Nat) {w0 w : World} (h : Fr0 w0 w) : OwnG vals T size w0 w (.slice none 0 0) [] := ⟨World.ownsRow_nil _ _ _ _, h⟩
theorem OwnG.kept0 {α : Type} {vals : α → List Value} {T : TypeId} {size : Nat} {w0 w w' : World} {v : Value} {xs : List α} (h : OwnG vals T size w0 w v xs) (hf : Fr0 w w') : OwnG vals T size w0 w' v xs := ⟨hf.owns h.row, h.fr.trans hf⟩
theorem OwnG.form {α : Type} {vals : α → List Value} {T : TypeId} {size : Nat} {w0 w : World} {v : Value} {xs : List α} (h : OwnG vals T size w0 w v xs) : ∃ a cap, v = .slice a xs.length cap := owns_form h.row
theorem OwnG.grown {α : Type} {vals : α → List Value} {T : TypeId} {size : Nat} {w0 w wx w' : World} {v v' : Value} {xs ys : List α} (h : OwnG vals T size w0 w v xs) (hx : Fr0 w wx) (h1 : w'.ownsRow w0.heap.size T size v' ys.length (ys.flatMap vals)) (hg : wx.grownBy w' v.ownBlock) : OwnG vals T size w0 w' v' ys :=
  ⟨h1, Fr.grown (h.fr.trans hx) hg (fun j hj hlt => by have := (h.row.lt j hj).1; omega)⟩
theorem OwnG.base {α : Type} {vals : α → List Value} {T : TypeId} {size : Nat} {w0 w1 w : World} {v : Value} {xs : List α} (h : OwnG vals T size w1 w v xs) (hf : Fr0 w0 w1) : OwnG vals T size w0 w v xs := ⟨owns_low h.row hf.size', hf.trans h.fr⟩

/-- A letter and where it was. -/
def clv (c : Int × Int) : List Value := [.int .u8 c.1, .int .i64 c.2]

theorem info_cell : (Tryz.prog.info? 149).map (fun i => (i.zero, i.size, i.bytes)) = some (some (.agg #[.int .u8 0, .int .i64 0]), 2, 16) := by kernel_rfl
theorem rt_cell : RT 61 149 2 16 := by
  obtain ⟨i, h1, h2, h3, h4⟩ := info_parts info_cell
  exact ⟨by omega, i, _, Tryz.underlying61, h1, h2, h3, h4, rfl⟩
theorem info_byte' : (Tryz.prog.info? 5).map (fun i => (i.zero, i.size, i.bytes)) = some (some (.int .u8 0), 1, 1) := by kernel_rfl
theorem rt_byte : RT 72 5 1 1 := by
  obtain ⟨i, h1, h2, h3, h4⟩ := info_parts info_byte'
  exact ⟨by omega, i, _, Tryz.underlying72, h1, h2, h3, h4, rfl⟩

def byv (x : Int) : List Value := [.int .u8 x]

theorem conv_strG {w0 w : World} {v : Value} {t : List Int} (h : OwnG byv 5 1 w0 w v t) (W : World) (hW : Fr0 w W) : (convert 72 9 v).run Tryz.prog W = .ok (.string (strOfNums t)) W := by
  have h := h.kept0 hW
  rcases h.row.2 with ⟨e1, e2⟩ | ⟨g, cap, cur, e1, _, hg, _, _, _, ht⟩
  · have : t = [] := List.eq_nil_of_length_eq_zero e2
    subst this
    rw [e1]
    exact run_convert_bytes_nil W 72 5 Tryz.underlying72 Tryz.underlying5 0 0 9 Tryz.underlying9
  · rw [e1]
    refine run_convert_bytes_arg W 72 5 Tryz.underlying72 Tryz.underlying5 g 0 t.length cap t rfl ?_ 9 Tryz.underlying9
    intro i hi
    have e := flat_get byv 1 t (fun _ _ => rfl) i 0 (by omega) _ (List.getElem?_eq_getElem hi)
    rw [Nat.mul_one, Nat.add_zero] at e
    have h1 := congrArg (fun l => l[i]?) ht
    rw [e, List.getElem?_take_of_lt (by omega)] at h1
    rw [cell_of_block hg, Nat.zero_add, ← Array.getElem?_toList, h1, List.getD_eq_getElem?_getD, List.getElem?_eq_getElem hi]
    rfl

/-- The letters of a text, where they are. -/
def cellsK (t : List Int) (k : Nat) : List (Int × Int) := (List.range k).map fun i => (t.getD i 0, (i : Int))
def cellsOf (t : List Int) : List (Int × Int) := cellsK t t.length

theorem cellsK_len (t : List Int) (k : Nat) : (cellsK t k).length = k := by simp [cellsK]
theorem cellsK_succ (t : List Int) (k : Nat) : cellsK t (k + 1) = cellsK t k ++ [(t.getD k 0, (k : Int))] := by simp [cellsK, List.range_succ]
theorem cellsOf_len (t : List Int) : (cellsOf t).length = t.length := cellsK_len _ _
theorem cellsOf_fst (t : List Int) : (cellsOf t).map Prod.fst = t := by
  apply List.ext_getElem
  · simp [cellsOf, cellsK]
  · intro i h1 h2
    simp [cellsOf, cellsK, List.getElem?_eq_getElem h2]

theorem sbs_at (s : ByteArray) (k : Nat) (h : k < s.size) : (sbs s).getD k 0 = (s[k].toNat : Int) := by
  have h2 : k < (sbs s).length := by rw [sbs_len]; exact h
  rw [List.getD_eq_getElem?_getD, List.getElem?_eq_getElem h2]
  simp [sbs]
  rfl

set_option maxRecDepth 100000 in
set_option maxHeartbeats 1000000 in
theorem ref37_Cells (s : ByteArray) (w : World) (hs : s.size ≤ 1000000) :
    Calls Tryz.prog 26 #[.string s] w fun e w' => ∃ v, e = .returned v ∧ OwnG clv 149 2 w w' v (cellsOf (sbs s)) := by
  go_enter Tryz.func26, Tryz.ntmps26
  go_wp2_with fail
  go_loopw [3, 7] (fun v i wr => ∃ k : Nat, k ≤ s.size ∧ i = .int .i64 k ∧ OwnG clv 149 2 w wr v (cellsK (sbs s) k)) (fun _ i _ => s.size - (intOf i).toNat)
  case atStart => exact ⟨0, Nat.zero_le _, rfl, OwnG.nil _ _ _ (Fr0.refl w)⟩
  case round =>
    obtain ⟨k, hk, rfl, hO⟩ := hrel
    by_cases hlt : k < s.size
    · have HO := Lib.hid hO
      have HSU := Lib.hid (cellsK_succ (sbs s) k)
      have HAT := Lib.hid (sbs_at s k hlt)
      have hxl : (cellsK (sbs s) k).length ≤ 1000000 := by rw [cellsK_len]; omega
      have hbs : w.heap.size ≤ wr.heap.size := Fr.size hO.fr
      have hrow := hO.row
      clear hO
      generalize cellsK (sbs s) k = xs at *
      go_wp2_with (at_builtin; refine wpList_pushG (vals := clv) rt_cell rfl _ _ rfl w.heap.size _ xs rfl hrow hbs 149 ((s[k].toNat : Int), (k : Int)) #[.int .u8 (s[k].toNat : Int), .int .i64 k] rfl rfl (by simp [clv, Value.oneCell']) 1 _ rfl rfl (by omega) hxl ?_; intro v' w4 hO4 hg4 hat4)
      have hX := HO.out.grown ((Fr0.refl _).alloc _) hO4 hg4
      go_roundw
      case rel => exact ⟨k + 1, by omega, by go_num, by rw [HSU.out, HAT.out]; exact hX⟩
      case measure => simp [intOf]; omega
    · have hke : k = s.size := by omega
      have HO : Hid (OwnG clv 149 2 w wr u3 (cellsOf (sbs s))) := by
        show OwnG _ _ _ _ _ _ (cellsK (sbs s) (sbs s).length)
        rw [sbs_len, ← hke]; exact hO
      clear hO
      go_wp2_with fail
      go_ret
      exact ⟨_, rfl, HO.out⟩

set_option maxRecDepth 100000 in
set_option maxHeartbeats 1000000 in
theorem ref37_Text {B : Nat} {w : World} {a : Option Addr} {cap : Nat} {xs : List (Int × Int)} (hA : RG clv 2 B w a xs) (hl : xs.length ≤ 1000000) :
    Calls Tryz.prog 30 #[.slice a xs.length cap] w fun e w' => e = .returned (.string (strOfNums (xs.map Prod.fst))) ∧ Fr0 w w' := by
  have HA := Lib.hid hA
  clear hA
  go_enter Tryz.func30, Tryz.ntmps30
  go_wp2_with fail
  go_loopw [3, 7] (fun v i wr => ∃ k : Nat, k ≤ xs.length ∧ i = .int .i64 k ∧ OwnG byv 5 1 w wr v ((xs.take k).map Prod.fst)) (fun _ i _ => xs.length - (intOf i).toNat)
  case atStart => exact ⟨0, Nat.zero_le _, rfl, OwnG.nil _ _ _ (Fr0.refl w)⟩
  case round =>
    obtain ⟨k, hk, rfl, hO⟩ := hrel
    by_cases hlt : k < xs.length
    · obtain ⟨b, off, rfl, lb, _, hc⟩ := (HA.out.kept0 hO.fr) k hlt
      have c0 := hc 0 _ rfl
      rw [Nat.add_zero] at c0
      have HO := Lib.hid hO
      have HSU : Hid ((xs.take (k + 1)).map Prod.fst = (xs.take k).map Prod.fst ++ [xs[k].1]) := by show _ = _; rw [List.take_succ_eq_append_getElem hlt, List.map_append]; rfl
      have hxl : ((xs.take k).map Prod.fst).length ≤ 1000000 := by simp; omega
      have hbs : w.heap.size ≤ wr.heap.size := Fr.size hO.fr
      have hrow := hO.row
      clear hO hc HA
      generalize xs[k] = c at *
      generalize (xs.take k).map Prod.fst = ys at *
      obtain ⟨c1, c2⟩ := c
      dsimp only at *
      go_wp2_with (at_builtin; refine wpList_pushG (vals := byv) rt_byte rfl _ _ rfl w.heap.size _ ys rfl hrow hbs 5 c1 #[.int .u8 c1] rfl rfl (by simp [byv, Value.oneCell']) 1 _ rfl rfl (by omega) hxl ?_; intro v' w4 hO4 hg4 hat4)
      have hX := HO.out.grown ((Fr0.refl _).alloc _) hO4 hg4
      go_roundw
      case rel => exact ⟨k + 1, by omega, by go_num, by rw [HSU.out]; exact hX⟩
      case measure => simp [intOf]; omega
    · have hke : xs.take k = xs := List.take_of_length_le (by omega)
      rw [hke] at hO
      have hcv := conv_strG hO wr (Fr0.refl wr)
      have HF := Lib.hid hO.fr
      clear hO HA hke
      go_wp2_with fail
      go_ret
      exact ⟨rfl, HF.out⟩

end Go.Proofs.YtclpndigmidjkaaGreat

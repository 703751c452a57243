/- The arguments of the laws of merge: the listed table, and a slice of ints. -/
import Derived.Test.YtbhidkmhlfggfaaGreatDoorRows
import Derived.Test.YtbhidkmhlfggfaaGreatDoorQOp37
import Derived.Test.YtbhidkmhlfggfaaGreatDoorQLw0
import Derived.LaidMore
import Derived.Lib.LaidTab
set_option linter.unusedVariables false
set_option linter.unusedSimpArgs false
namespace Go.Proofs.YtbhidkmhlfggfaaGreatDoor
open Go.ChangeShapes Go.WideShapes Go.ChangeAt Go.WideMaps Go.WideElems Go.RowKit Go.Deep
abbrev laidD43 : List (String × DataW Unit) := [("math/bits.deBruijn64tab", Rows.laid_math_bits_deBruijn64tab)]
theorem gDeb43 : Tryz.prog.globalNamed "math/bits.deBruijn64tab" = some 0 := by kernel_rfl
theorem tDeb43 : (Tryz.prog.globals[0]?).map (·.type) = some 295 := by kernel_rfl
theorem debData43 : (Rows.laid_math_bits_deBruijn64tab : DataW Unit) = .agg (Lib.deBruijn64tab.map fun (n : Nat) => DataW.lit (.int .u8 (n : Int))) := by kernel_rfl
theorem of_laid43 {W : World} (h : laidMetH Tryz.prog laidD43 W) : Deb W.heap.size W := by
 rw [MakeChecks.laidMetH_plain _ _ _ (by kernel_rfl)] at h
 obtain ⟨ps, ⟨g0, t0, cs0, f0, p0, q0, hg0, ht0, hv0, hd0, _⟩, _⟩ := h
 obtain rfl := Option.some.inj (gDeb43.symm.trans hg0)
 obtain rfl := Option.some.inj (tDeb43.symm.trans ht0)
 obtain ⟨xs, m1, rfl, hx1, hlen, hn3, hel⟩ := DataW.trod_array Tryz.underlying295 hd0
 have c5 : Tryz.prog.cellsOf 5 = 1 := by kernel_rfl
 rw [debData43] at hx1
 simp only [Prod.mk.injEq, DataW.agg.injEq] at hx1
 have hxs := hx1.1
 have key : TabAt 0 Lib.deBruijn64tab W := by
  intro j hj
  have hj64 : j < 64 := hj
  have h1 := hel j hj64
  rw [c5, Nat.mul_one] at h1
  have hjx : j < xs.length := by rw [hn3]; exact hj64
  rw [List.getElem?_eq_getElem hjx] at h1
  obtain ⟨k, e1, e2, _⟩ := DataW.trod_int Tryz.underlying5 h1
  have e3 : (xs.map (·.1))[j]? = some (DataW.lit (.int .u8 k)) := by rw [List.getElem?_map, List.getElem?_eq_getElem hjx, e2]; rfl
  rw [← hxs, List.getElem?_map, List.getElem?_eq_getElem hj] at e3
  simp only [Option.map_some, Option.some.injEq, DataW.lit.injEq, Lit.int.injEq, true_and] at e3
  have e4 : cs0[j]? = some (.int .u8 k) := by
   have := congrArg (fun l => l[0]?) e1
   simpa using this
  rw [World.var?_cell hg0 hv0 j, e4, ← e3, List.getD_eq_getElem?_getD, List.getElem?_eq_getElem hj]
  rfl
 exact ⟨World.block_lt_of_cell? W _ (key 0 (by decide)), key⟩
theorem cnt_bulk {H : Type} (D : Nat → DataW H) : ∀ (l : List Nat), (∀ i ∈ l, 1 ≤ Rows.uptoBulk (D i)) → l.length ≤ Rows.uptoBulkAll (l.map D)
 | [], h => by simp
 | i :: l, h => by
  have a := cnt_bulk D l (fun j hj => h j (by simp [hj]))
  have b := h i (by simp)
  simp only [List.map_cons, Rows.uptoBulkAll, List.length_cons]
  omega
set_option maxRecDepth 100000 in
theorem open_ints43 {H : Type} {enc : TypeId × Value → H} {w : World} {base : Nat} {spare : Nat → Bool} {held : Bool} {fuel : Nat} {cs : List Value} {x : DataW H × List MemPlace}
    (h : DataW.trod enc Tryz.prog w base spare held fuel 46 cs = some x) :
    ∃ (a : Option Addr) (cap : Nat) (ks : List Int), cs = [.slice a ks.length cap] ∧ RG (fun x => [Value.int .i64 x]) 1 w.heap.size w a ks ∧ ks.length ≤ Rows.uptoBulk x.1 ∧ ks.length ≤ cap := by
 have hC : Tryz.prog.cellsOf 3 = 1 := by kernel_rfl
 rcases open_slice Tryz.underlying46 h with ⟨h0, h00⟩ | ⟨a, len, cap, m, n, D, Pl, hcs, hb, hl, hm, hmm, hx, hi⟩
 · exact ⟨none, 0, [], h0, RG.nil _ _ _ _ _, by simp, by simp⟩
 · have hlm : len ≤ m := by rw [hmm]; split <;> omega
   have hex : ∀ i, i < len → ∃ r : Int, w.cell? (a.add (i * 1)) = some (.int .i64 r) ∧ 1 ≤ Rows.uptoBulk (D i) := by
    intro i hil
    obtain ⟨cs', hc, ht'⟩ := hi i (by omega)
    rw [hC] at hc
    obtain ⟨_, hcl, hat⟩ := World.cells?_some hc
    obtain ⟨q0, e0, y0, _⟩ := DataW.trod_int Tryz.underlying3 ht'
    subst e0
    refine ⟨q0, hat 0 (by simp), ?_⟩
    have hD := congrArg Prod.fst y0
    dsimp only at hD
    rw [hD]
    simp [Rows.uptoBulk]
   obtain ⟨R, hR⟩ := choose_lt hex
   refine ⟨some a, cap, (List.range len).map R, by rw [hcs]; simp, ?_, ?_, by simpa using hl⟩
   · intro i hi'
     have hil : i < len := by simpa using hi'
     obtain ⟨k0, _⟩ := hR i hil
     obtain ⟨z0, _⟩ := hR 0 (by omega)
     have ha := addr_of_cell' z0
     simp only [Nat.zero_mul, Addr.add, if_true] at ha
     obtain ⟨ha1, ha2⟩ := ha
     obtain ⟨ab, ao, as'⟩ := a
     simp only [Addr.mk.injEq, true_and] at ha1
     subst ha1
     rw [add_offG] at k0
     refine ⟨ab, ao, rfl, ha2, .inl ha2, fun j u hj => ?_⟩
     rw [List.getElem_map, List.getElem_range] at hj
     match j, hj with
     | 0, hj => simp only [List.getElem?_cons_zero, Option.some.injEq] at hj; subst hj; exact k0
     | j + 1, hj => simp at hj
   · rw [hx]
     have := cnt_bulk D (List.range len) (fun i hi' => (hR i (List.mem_range.1 hi')).2)
     simp only [Rows.uptoBulk, List.length_map, List.length_range] at *
     omega
end Go.Proofs.YtbhidkmhlfggfaaGreatDoor

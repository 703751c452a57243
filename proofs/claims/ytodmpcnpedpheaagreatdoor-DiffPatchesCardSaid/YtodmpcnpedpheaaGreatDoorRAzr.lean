/- append(s, make([]T, m)...): zeros behind a slice that the call owns. -/
import Derived.Test.YtodmpcnpedpheaaGreatDoorRAvl2
import Derived.Test.YtodmpcnpedpheaaGreatDoorRSg2
import Derived.Laws.AppendOwn
import Derived.Laws.CopyRow
import Derived.Test.YtodmpcnpedpheaaGreatDoorRSt5
import Derived.Deep.QuietTactic
import Derived.BigQuiet
import Derived.Test.YtodmpcnpedpheaaGreatDoorRWt4
import Derived.Laws.BytesArg
import Derived.Laws.IdiomStrings
set_option linter.unusedSimpArgs false
set_option linter.unusedVariables false
namespace Go.Proofs.YtodmpcnpedpheaaGreatDoor
open Go.RowKit

theorem wrap_nat63 {m : Nat} (h : m ≤ maxLen) : IntKind.i64.wrap (m : Int) = m := by
  simp only [maxLen] at h
  simp [IntKind.wrap, IntKind.bits, IntKind.signed]
  omega

set_option maxHeartbeats 1000000 in
theorem run_zeros {P : Program} (w : World) (base : Nat) (t tn ty e : TypeId) (i : TypeInfo) (z : Value) (size bytes : Nat) (ht : P.underlying t = some (.slice e)) (htn : P.underlying tn = some (.int .i64)) (hi : P.info? e = some i) (hz : i.zero = some z)
    (hsize : i.size = size) (hby : i.bytes = bytes) (hzs : z.cells.size = size) (hsz : 0 < size)
    (v : Value) (n : Nat) (xs : List Value) (hown : w.ownsRow base e size v n xs) (m : Nat) (hm : 0 < m)
    (h1 : ∀ u ∈ (Builtin.zeroCells z.cells m).toList, u.oneCell' = true) (h63 : n + m ≤ maxLen) (hbytes : (n + m) * bytes ≤ 140737488355328) (hbase : base ≤ w.heap.size) :
    ∃ v' w', (Builtin.append_ #[t, tn] ty #[v, .int .i64 m]).run P w = .ok v' w' ∧ w'.ownsRow base e size v' (n + m) (xs ++ (Builtin.zeroCells z.cells m).toList) ∧ w.grownBy w' v.ownBlock ∧ (v'.ownBlock = v.ownBlock ∨ v'.ownBlock = some w.heap.size) := by
  subst hsize
  subst hby
  have hsmall : n + m ≤ 9223372036854775807 := by simp only [maxLen] at h63; omega
  have hwr : IntKind.i64.wrap (m : Int) = m := wrap_nat63 (by omega)
  have hl : (Builtin.zeroCells z.cells m).toList.length = m * i.size := by rw [Array.length_toList, size_zeroCells, hzs]
  have hnz : m * i.size ≠ 0 := by
    have := Nat.mul_pos hm hsz
    omega
  have hlen : (xs ++ (Builtin.zeroCells z.cells m).toList).length = (n + m) * i.size := by rw [List.length_append, hown.1, hl, Nat.add_mul]
  have hmb : m * i.bytes ≤ 140737488355328 := Nat.le_trans (Nat.mul_le_mul_right _ (by omega)) hbytes
  have hb48 : ¬ (281474976710656 < (m : Int) * (i.bytes : Int)) := by
    rw [← Int.natCast_mul]; omega
  have hneg : ¬ ((m : Int) < 0) := by omega
  have h63' : ¬ (9223372036854775807 < ((n : Int) + (m : Int))) := by omega
  rcases hown.2 with ⟨rfl, rfl⟩ | ⟨g, cap, cur, rfl, hbg, hg, hnc, hcm, hcs, htake⟩
  · have hx : xs = [] := List.eq_nil_of_length_eq_zero (by simpa using hown.1)
    subst hx
    have h48' : ¬ (281474976710656 < Builtin.nextslicecap m 0 * i.bytes) := by
      have := growslice_fits (need := m) (old := 0) (by omega) hmb
      omega
    have hm0 : ¬ m = 0 := by omega
    have hge := grownCap_ge w m 0 e
    have hcm : grownCap w m 0 e ≤ maxLen := grownCap_le_maxLen w m 0 e (by omega)
    refine ⟨.slice (some ⟨w.heap.size, 0, none⟩) m (grownCap w m 0 e), w.drew.alloc (.cells (Builtin.zeroCells z.cells m ++ Builtin.zeroCells z.cells (grownCap w m 0 e - m)) e), ?_, ?_, ?_, .inr rfl⟩
    · simp [Builtin.append_, run_underlying ht, run_underlying htn, sizeOf, typeInfo, zeroValue, hi, hz, asInt, asIntOf, hwr, hneg, hb48, hm0, hnz, h63', h48', Builtin.firstCells, Question.forced, newRow, grownCap]
      intro h; omega
    · rw [Nat.zero_add, List.nil_append]
      rw [Nat.zero_add, List.nil_append] at hlen
      refine ⟨hlen, .inr ⟨w.heap.size, _, _, rfl, hbase, heap_alloc_new w.drew _, by omega, hcm, ?_, ?_⟩⟩
      · rw [Array.size_append, size_zeroCells, size_zeroCells, hzs, ← Nat.add_mul]
        congr 1
        omega
      · rw [Array.toList_append, ← hl]
        exact List.take_left
    · exact ⟨rfl, rfl, rfl, by simp, fun k hk _ => Go.heap_alloc_old w.drew _ (by simpa using hk)⟩
  · by_cases hroom : n + m ≤ cap
    · have hfit : n * i.size + (Builtin.zeroCells z.cells m).toList.length ≤ cur.size := by rw [hl, hcs, ← Nat.add_mul]; exact Nat.mul_le_mul_right _ hroom
      have hst := run_storeCells_at P g (n * i.size) e (Builtin.zeroCells z.cells m).toList 0 cur w hg (by simpa using hfit) h1
      simp only [Nat.add_zero] at hst
      refine ⟨.slice (some ⟨g, 0, none⟩) (n + m) cap, w.setRow g (cur.toList.take (n * i.size) ++ (Builtin.zeroCells z.cells m).toList ++ cur.toList.drop (n * i.size + (Builtin.zeroCells z.cells m).toList.length)).toArray, ?_, ?_, ?_, .inl rfl⟩
      · simp [Builtin.append_, run_underlying ht, run_underlying htn, sizeOf, typeInfo, zeroValue, hi, hz, asInt, asIntOf, hwr, hneg, hb48, hnz, hroom, Addr.add_lit, hst]
      · refine ⟨hlen, .inr ⟨g, cap, _, rfl, hbg, setRow_heap w g cur _ e _ hg, hroom, hcm, ?_, ?_⟩⟩
        · simp only [List.size_toArray, List.length_append, List.length_take, List.length_drop, Array.length_toList] at hfit ⊢
          omega
        · rw [htake, ← hlen]
          exact List.take_left
      · exact ⟨rfl, rfl, rfl, by simp, fun k _ hk => setRow_other w g k _ (fun e => hk (by simp [Value.ownBlock, e]))⟩
    · have holds : ∀ j u, xs[j]? = some u → w.cell? ((⟨g, 0, none⟩ : Addr).add j) = some u := hown.cells (g := g) rfl
      have h48' : ¬ (281474976710656 < Builtin.nextslicecap (n + m) cap * i.bytes) := by
        have := growslice_fits (need := n + m) (old := cap) (by omega) hbytes
        omega
      have hfo := run_firstCells_some (P := P) w.drew i.size n ⟨g, 0, none⟩ n cap xs hown.1 (by simpa using holds)
      have hge := grownCap_ge w (n + m) cap e
      have hcm2 : grownCap w (n + m) cap e ≤ maxLen := grownCap_le_maxLen w (n + m) cap e h63
      refine ⟨.slice (some ⟨w.heap.size, 0, none⟩) (n + m) (grownCap w (n + m) cap e), w.drew.alloc (.cells (xs.toArray ++ Builtin.zeroCells z.cells m ++ Builtin.zeroCells z.cells (grownCap w (n + m) cap e - (n + m))) e), ?_, ?_, ?_, .inr rfl⟩
      · simp [Builtin.append_, run_underlying ht, run_underlying htn, sizeOf, typeInfo, zeroValue, hi, hz, asInt, asIntOf, hwr, hneg, hb48, hnz, hroom, h63', h48', hfo, Question.forced, newRow, grownCap]
      · refine ⟨hlen, .inr ⟨w.heap.size, _, _, rfl, hbase, heap_alloc_new w.drew _, by omega, hcm2, ?_, ?_⟩⟩
        · simp only [Array.size_append, List.size_toArray, size_zeroCells, hzs, hown.1, ← Nat.add_mul]
          congr 1
          omega
        · simp only [Array.toList_append]
          rw [← hlen]
          exact List.take_left
      · exact ⟨rfl, rfl, rfl, by simp, fun k hk _ => Go.heap_alloc_old w.drew _ (by simpa using hk)⟩

/-- The same, as one step of a region that draws. -/
theorem step_zeros {P : Program} {w : World} {ops : Array Oper} {o : Oper} {a : Act} {K : Act → World → Prop} {Q : Exit → Act → World → Prop} {E : Prop} (hgd : o.guard = none) (s x : Operand) (t tn : TypeId)
    (ho : o.op = .call { callee := .builtin .append, args := #[s, x], argTypes := #[t, tn] })
    (base : Nat) (e : TypeId) (i : TypeInfo) (z : Value) (size bytes : Nat) (ht : P.underlying t = some (.slice e)) (htn : P.underlying tn = some (.int .i64)) (hi : P.info? e = some i) (hz : i.zero = some z)
    (hsize : i.size = size) (hby : i.bytes = bytes) (hzs : z.cells.size = size) (hsz : 0 < size)
    (v : Value) (n : Nat) (xs : List Value) (hs : a.eval s = v) (hown : w.ownsRow base e size v n xs) (m : Nat) (hx : a.eval x = .int .i64 m) (hm : 0 < m)
    (h1 : ∀ u ∈ (Builtin.zeroCells z.cells m).toList, u.oneCell' = true) (h63 : n + m ≤ maxLen) (hbytes : (n + m) * bytes ≤ 140737488355328) (hbase : base ≤ w.heap.size)
    (hK : ∀ v' w', w'.ownsRow base e size v' (n + m) (xs ++ (Builtin.zeroCells z.cells m).toList) → w.grownBy w' v.ownBlock → (v'.ownBlock = v.ownBlock ∨ v'.ownBlock = some w.heap.size) → K (a.put o.dst v') w') :
    if Region.wanted o (yielded ops a.tmps) = true then Oper.wp P o a w K Q else E := by
  have hw : Region.wanted o (yielded ops a.tmps) = true := by simp [Region.wanted, hgd]
  rw [if_pos hw]
  obtain ⟨v', w', hr, h2, h3, h4⟩ := run_zeros (P := P) w base t tn o.type e i z size bytes ht htn hi hz hsize hby hzs hsz v n xs hown m hm h1 h63 hbytes hbase
  unfold Oper.wp execOp
  simp only [ho, resolve, invoke, builtin, Sem.run_bind, Sem.run_pure, Result.andThen_ok, List.map_toArray, List.map_cons, List.map_nil, hs, hx, hr]
  exact hK _ _ h2 h3 h4

theorem zeroRows : ∀ m : Nat, (Builtin.zeroCells #[.int .u64 0, .int .i64 0, .bool false] m).toList = (List.replicate m blankR).flatMap KRow.vals
  | 0 => by simp [Builtin.zeroCells]
  | m + 1 => by
    rw [List.replicate_succ', List.flatMap_append, ← zeroRows m]
    simp [Builtin.zeroCells, List.range_succ, show (m + 1) * 3 = m * 3 + 1 + 1 + 1 by omega, KRow.vals, blankR, Nat.add_mod, Nat.mul_mod_left]

theorem zeroRows_one (m : Nat) : ∀ u ∈ (Builtin.zeroCells (Value.agg #[.int .u64 0, .int .i64 0, .bool false]).cells m).toList, u.oneCell' = true := by
  intro u hu
  have e : (Builtin.zeroCells (Value.agg #[.int .u64 0, .int .i64 0, .bool false]).cells m).toList = _ := zeroRows m
  rw [e] at hu
  rw [List.mem_flatMap] at hu
  obtain ⟨r, hr, hu⟩ := hu
  obtain ⟨_, rfl⟩ := List.mem_replicate.1 hr
  simp [KRow.vals, blankR] at hu
  rcases hu with rfl | rfl | rfl <;> rfl

end Go.Proofs.YtodmpcnpedpheaaGreatDoor

/- Rows of a blame, and the walk of builder.add. -/
set_option linter.unusedSimpArgs false
set_option linter.unusedVariables false
namespace Go.Proofs.YtodmpcnpedpheaaGreatDoor
open Go.RowKit

structure Rw where
  fr : Int
  n : Int
  ver : Int
  org : Int
deriving DecidableEq, Inhabited

def Rw.vals (r : Rw) : List Value := [.int .i64 r.fr, .int .i64 r.n, .int .i64 r.ver, .int .i64 r.org]

end Go.Proofs.YtodmpcnpedpheaaGreatDoor

/- The walk of builder.add where the last row goes on. -/
set_option linter.unusedSimpArgs false
set_option linter.unusedVariables false
namespace Go.Proofs.YtodmpcnpedpheaaGreatDoor
open Go.RowKit

theorem owns_set_own {w : World} {base : Nat} {e : TypeId} {size n cap g : Nat} {xs : List Value} (h : w.ownsRow base e size (.slice (some ⟨g, 0, none⟩) n cap) n xs) (j : Nat) (u : Value) (hj : j < xs.length) : (w.setCell ⟨g, j, none⟩ u).ownsRow base e size (.slice (some ⟨g, 0, none⟩) n cap) n (xs.set j u) := by
  refine ⟨by rw [List.length_set]; exact h.1, .inr ?_⟩
  rcases h.2 with ⟨h1, _⟩ | ⟨g', cap', cur, h1, hb, hg, h2, h3, h4, h5⟩
  · cases h1
  · simp only [Value.slice.injEq, Option.some.injEq, Addr.mk.injEq] at h1
    obtain ⟨⟨rfl, _, _⟩, _, rfl⟩ := h1
    refine ⟨g, cap, _, rfl, hb, setCell_block hg j u, h2, h3, by simpa using h4, ?_⟩
    rw [← h5, Array.toList_setIfInBounds, List.take_set]

end Go.Proofs.YtodmpcnpedpheaaGreatDoor

/- The walk of split.Cut. -/
set_option linter.unusedSimpArgs false
set_option linter.unusedVariables false
namespace Go.Proofs.YtodmpcnpedpheaaGreatDoor
open Go.RowKit

/-- The k-th of the bounds of the parts. -/
def bnd (cs : List Int) (T : Int) (k : Nat) : Int := (0 :: (cs ++ [T])).getD k 0

theorem bnd_last (cs : List Int) (T : Int) : bnd cs T (cs.length + 1) = T := by
  unfold bnd
  rw [List.getD_cons_succ, List.getD_eq_getElem?_getD, List.getElem?_append_right (Nat.le_refl _)]
  simp

/-- The bounds do not decrease. -/
def Incr (cs : List Int) (T : Int) : Prop := ∀ k, k ≤ cs.length → bnd cs T k ≤ bnd cs T (k + 1)

theorem Incr.up {cs : List Int} {T : Int} (h : Incr cs T) : ∀ (j k : Nat), k + j = cs.length + 1 → bnd cs T k ≤ T
  | 0, k, hk => by
    have : k = cs.length + 1 := by omega
    subst this
    rw [bnd_last]; exact Int.le_refl _
  | j + 1, k, hk => by
    have := h.up j (k + 1) (by omega)
    have := h k (by omega)
    omega

/-- The parts of a text. -/
def pieces (t : List Int) (cs : List Int) : List (List Int) := (List.range (cs.length + 1)).map fun k => cutL t (bnd cs t.length k) (bnd cs t.length (k + 1) - bnd cs t.length k)

end Go.Proofs.YtodmpcnpedpheaaGreatDoor

/- Lists of structs in memory, for any struct: reading and append. -/
set_option linter.unusedSimpArgs false
set_option linter.unusedVariables false
namespace Go.Proofs.YtodmpcnpedpheaaGreatDoor
open Go.RowKit

/-- The elements can be read at an address; their block lies below B, or is none of a store's. -/
def RG {α : Type} (vals : α → List Value) (size B : Nat) (w : World) (a : Option Addr) (xs : List α) : Prop :=
  ∀ i (h : i < xs.length), ∃ b off, a = some ⟨b, off, none⟩ ∧ b < w.heap.size ∧ (b < B ∨ ∃ cs t fr, w.heap[b]? = some (Obj.cells cs t fr) ∧ t ≠ 77 ∧ t ≠ 129) ∧
    ∀ j u, (vals xs[i])[j]? = some u → w.cell? ⟨b, off + i * size + j, none⟩ = some u

theorem RG.nil {α : Type} (vals : α → List Value) (size B : Nat) (w : World) (a : Option Addr) : RG vals size B w a [] := fun i h => by simp at h

theorem RG.kept0 {α : Type} {vals : α → List Value} {size B : Nat} {w w' : World} {a : Option Addr} {xs : List α} (h : RG vals size B w a xs) (hf : Fr0 w w') : RG vals size B w' a xs := by
  intro i hi
  obtain ⟨b, off, h1, h2, h3, h4⟩ := h i hi
  refine ⟨b, off, h1, by have := Fr.size hf; omega, ?_, fun j u hj => (hf.cell b _ h2).trans (h4 j u hj)⟩
  rcases h3 with h3 | ⟨cs, t, fr, g1, g2⟩
  · exact .inl h3
  · exact .inr ⟨cs, t, fr, hf.kept g1, g2⟩

theorem RG.keptK {α : Type} {vals : α → List Value} {size B mb : Nat} {w w' : World} {a : Option Addr} {xs : List α} (h : RG vals size B w a xs) (hf : Kp B mb w w') : RG vals size B w' a xs := by
  intro i hi
  obtain ⟨b, off, h1, h2, h3, h4⟩ := h i hi
  refine ⟨b, off, h1, by have := hf.size; omega, ?_, fun j u hj => ?_⟩
  · rcases h3 with h3 | ⟨cs, t, fr, g1, g2⟩
    · exact .inl h3
    · exact .inr ⟨cs, t, fr, hf.cells _ _ _ _ g1 g2.1 g2.2, g2⟩
  · rcases h3 with h3 | ⟨cs, t, fr, g1, g2⟩
    · rw [World.cell?_of_block (hf.low b h3 h2)]; exact h4 j u hj
    · have := h4 j u hj
      rw [cell_of_block g1] at this
      rw [cell_of_block (hf.cells _ _ _ _ g1 g2.1 g2.2)]; exact this

theorem RG.tail {α : Type} {vals : α → List Value} {size B : Nat} {w : World} {b off : Nat} {xs : List α} (h : RG vals size B w (some ⟨b, off, none⟩) xs) : RG vals size B w (some ⟨b, off + size, none⟩) (xs.drop 1) := by
  intro i hi
  have hi2 : 1 + i < xs.length := by rw [List.length_drop] at hi; omega
  obtain ⟨b', off', h1, h2, h3, h4⟩ := h (1 + i) hi2
  simp only [Option.some.injEq, Addr.mk.injEq, and_true] at h1
  obtain ⟨rfl, rfl⟩ := h1
  refine ⟨b, off + size, rfl, h2, h3, fun j u hj => ?_⟩
  rw [List.getElem_drop] at hj
  have := h4 j u hj
  rw [show off + size + i * size + j = off + (1 + i) * size + j by rw [Nat.add_mul, Nat.one_mul]; omega]
  exact this

/-- A slice that the call owns, read. -/
theorem rg_of_own {α : Type} {vals : α → List Value} {size B base : Nat} {T : TypeId} {w : World} {v : Value} {xs : List α} (hv : ∀ x ∈ xs, (vals x).length = size) (h : w.ownsRow base T size v xs.length (xs.flatMap vals)) (h1 : T ≠ 77) (h2 : T ≠ 129) :
    ∃ a cap, v = .slice a xs.length cap ∧ RG vals size B w a xs := by
  rcases h.2 with ⟨e1, e2⟩ | ⟨g, cap, cur, e1, _, hg, _, _, _, ht⟩
  · have : xs = [] := List.eq_nil_of_length_eq_zero e2
    subst this
    exact ⟨none, 0, e1, RG.nil _ _ _ _ _⟩
  · refine ⟨_, cap, e1, fun i hi => ⟨g, 0, rfl, lt_of_block hg, .inr ⟨cur, T, (0, 0), hg, h1, h2⟩, fun j u hj => ?_⟩⟩
    have hjs : j < size := by
      have := (List.getElem?_eq_some_iff.1 hj).1
      rw [hv _ (List.getElem_mem hi)] at this
      exact this
    have e := flat_get vals size xs hv i j hjs _ (List.getElem?_eq_getElem hi)
    have hlt : i * size + j < xs.length * size := by
      have : (i + 1) * size ≤ xs.length * size := Nat.mul_le_mul_right _ hi
      rw [Nat.add_mul, Nat.one_mul] at this
      omega
    have h3 := congrArg (fun l => l[i * size + j]?) ht
    rw [List.getElem?_take_of_lt (by omega)] at h3
    rw [cell_of_block hg, Nat.zero_add, ← Array.getElem?_toList, h3, e, hj]

/-- One element more in a slice of the call's own. -/
theorem wpList_pushG {α : Type} {vals : α → List Value} {ST T : TypeId} {size bytes : Nat} (hT : RT ST T size bytes) {w : World} {ops : Array Oper} {rest : List Oper} {o : Oper} {a : Act} {Q : Exit → Act → World → Prop} (hgd : o.guard = none) (s x : Operand)
    (ho : o.op = .call { callee := .builtin .append, args := #[s, x], argTypes := #[ST, ST] })
    (base : Nat) (v : Value) (xs : List α) (hs : a.eval s = v) (hown : w.ownsRow base T size v xs.length (xs.flatMap vals)) (hb : base ≤ w.heap.size) (T' : TypeId) (y : α) (cs : Array Value) (hcs : cs.toList = vals y) (hy : (vals y).length = size) (h1 : ∀ u ∈ vals y, u.oneCell' = true)
    (c H : Nat) (hH : w.heap.size = H) (hx : a.eval x = .slice (some ⟨H, 0, none⟩) 1 c) (hbytes : bytes ≤ 100) (hlen : xs.length ≤ 1000000)
    (h : ∀ v' w', w'.ownsRow base T size v' (xs ++ [y]).length ((xs ++ [y]).flatMap vals) → (w.alloc (.cells cs T' (0, 0))).grownBy w' v.ownBlock → (v'.ownBlock = v.ownBlock ∨ v'.ownBlock = some (w.heap.size + 1)) → wpList Tryz.prog ops Q rest (a.put o.dst v') w') :
    wpList Tryz.prog ops Q (o :: rest) a (w.alloc (.cells cs T' (0, 0))) := by
  subst hH
  have hby : (xs.length + 1) * bytes ≤ 140737488355328 := by
    have : (xs.length + 1) * bytes ≤ 1000001 * 100 := Nat.mul_le_mul (by omega) hbytes
    omega
  have hsrc : SrcAt (w.alloc (.cells cs T' (0, 0))) (.slice (some ⟨w.heap.size, 0, none⟩) 1 c) 1 (vals y) := by
    refine .inr ⟨_, c, rfl, fun j u hj => ?_⟩
    have h := World.news_of_block (cs := cs) (t := T') (fr := (0, 0)) (heap_alloc_new w (.cells cs T' (0, 0)))
    rw [← hcs] at hj
    exact h j u hj
  refine wpList_append_rt hT hgd s x ho base v xs.length _ hs (hown.alloc _) _ 1 (vals y) hx hsrc (by rw [hy]; omega) h1 (by unfold maxLen; omega) hby (by simp; omega) ?_
  intro v' w' h1 h2 h3
  exact h v' w' (by simpa using h1) h2 (by simpa using h3)

end Go.Proofs.YtodmpcnpedpheaaGreatDoor

/- The walk of Power. -/
set_option linter.unusedSimpArgs false
set_option linter.unusedVariables false
namespace Go.Proofs.YtodmpcnpedpheaaGreatDoor
open Go.RowKit

set_option maxRecDepth 100000 in
set_option maxHeartbeats 1000000 in
theorem st_Power_some {w : World} {p mb : Nat} {most : Int} {sv : Value} {L : List Ent} (hS : St w p mb most sv L) (hO : SOk L) (l : Int) (k : Nat) (hl : isKnown L l) (l0 : l ≠ 0) (hk : 2 ≤ k)
    (hlen : (entAt L l).wt.len * k ≤ 1152921504606846976) (j : Nat) (hj : ruleIdx ⟨3, 0, l, 0, k⟩ L = some j) :
    Calls Tryz.prog 28 #[.pointer (some ⟨p, 0, none⟩), .int .i64 l, .int .i64 k] w fun e w' => e = .returned (.tuple #[.int .i64 ((j : Int) + 1), .nilIface]) ∧ Fr0 w w' := by
  have CF := Lib.hid (fun w' (hf : Fr0 w w') => st_find_some (hS.kept0 hf) ⟨3, 0, l, 0, k⟩ j hj)
  have K1 := Lib.hid (fun w' (hf : Fr0 w w') => st_known_yes (hS.kept0 hf) l hl)
  have a1 := fun w' (hf : Fr0 w w') => st_at (hS.kept0 hf) l hl
  have q1 := (hO.at l hl).1.len1
  have q2 := ((hO.at l hl).2.2.2 l0).1
  generalize entAt L l = x at *
  have CM := Lib.hid (fun w' => len_Mul_ok x.wt.len k w' q2 (by omega) hlen q1)
  have A1 := Lib.hid a1
  have hl0 : (l == 0) = false := by simpa using l0
  have hk0 : ((k : Int) == 0) = false := by simp; omega
  have hk1 : ((k : Int) == 1) = false := by simp; omega
  have hk2 : (0 : Int) ≤ (k : Int) := by omega
  clear hS hj a1 hO l0 hl hlen
  go_enter Tryz.func28, Tryz.ntmps28
  go_wp2_with fail
  refine (K1.out _ (Fr0.refl w)).mono ?_
  rintro e w' ⟨rfl, rfl⟩
  go_wp2_with fail
  refine (A1.out _ (Fr0.refl w)).mono ?_
  rintro e w1 ⟨rfl, hf1⟩
  go_wp2_with fail
  refine (CM.out _).mono ?_
  rintro e w' ⟨rfl, rfl⟩
  go_wp2_with fail
  refine (CF.out _ ((hf1.alloc _).alloc _)).mono ?_
  rintro e w4 ⟨rfl, hf4⟩
  have hj1 : ((j : Int) + 1 != 0) = true := by simp; omega
  go_wp2_with fail
  go_ret2
  exact ⟨rfl, ((hf1.alloc _).alloc _).trans hf4⟩

set_option maxRecDepth 100000 in
set_option maxHeartbeats 2000000 in
theorem st_Power_none {w : World} {p mb : Nat} {most : Int} {sv : Value} {L : List Ent} (hS : St w p mb most sv L) (hO : SOk L) (l : Int) (k : Nat) (hl : isKnown L l) (l0 : l ≠ 0) (hk : 2 ≤ k)
    (hlen : (entAt L l).wt.len * k ≤ 1152921504606846976) (hj : ruleIdx (powEnt L l k).rule L = none) (hm : (L.length : Int) < most) (hL : L.length < 1048576) :
    Calls Tryz.prog 28 #[.pointer (some ⟨p, 0, none⟩), .int .i64 l, .int .i64 k] w fun e w' => e = .returned (.tuple #[.int .i64 ((L.length : Int) + 1), .nilIface]) ∧ Stepped w w' p mb most sv (L ++ [powEnt L l k]) := by
  have CF := Lib.hid (fun w' (hf : Fr0 w w') => st_find_none (hS.kept0 hf) ⟨3, 0, l, 0, k⟩ hj hm)
  have K1 := Lib.hid (fun w' (hf : Fr0 w w') => st_known_yes (hS.kept0 hf) l hl)
  have a1 := fun w' (hf : Fr0 w w') => st_at (hS.kept0 hf) l hl
  obtain ⟨v1, v2, v3, v4⟩ := hO.at l hl
  have q1 := v1.len1
  have q2 := (v4 l0).1
  have cj : ∀ w', Calls Tryz.prog 49 #[.agg #[.int .i64 (entAt L l).wt.len, .int .i64 (entAt L l).wt.lines, .int .i64 (entAt L l).wt.head, .int .i64 (entAt L l).wt.tail, .int .u64 (entAt L l).wt.val, .int .u64 (entAt L l).wt.scale], .int .i64 k] w'
      fun e w'' => e = .returned (.tuple #[.agg #[.int .i64 ((entAt L l).wt.rep k).len, .int .i64 ((entAt L l).wt.rep k).lines, .int .i64 ((entAt L l).wt.rep k).head, .int .i64 ((entAt L l).wt.rep k).tail, .int .u64 ((entAt L l).wt.rep k).val, .int .u64 ((entAt L l).wt.rep k).scale], .nilIface]) ∧ Fr0 w' w'' :=
    fun w' => wt_Repeat _ k w' v1 (by omega) q2 hlen
  have ca := fun (t : Wt) (d : Int) w' (hf : Fr0 w w') => st_add' (hS.kept0 hf) ⟨⟨3, 0, l, 0, k⟩, t, d, false⟩ hj hL
  have hx : powEnt L l k = ⟨⟨3, 0, l, 0, k⟩, (entAt L l).wt.rep k, 1 + (entAt L l).depth, false⟩ := rfl
  rw [hx]
  generalize (entAt L l).wt.rep k = t at *
  generalize entAt L l = x at *
  have CM := Lib.hid (fun w' => len_Mul_ok x.wt.len k w' q2 (by omega) hlen q1)
  have A1 := Lib.hid a1
  have CJ := Lib.hid cj
  have CA := Lib.hid ca
  have hl0 : (l == 0) = false := by simpa using l0
  have hk0 : ((k : Int) == 0) = false := by simp; omega
  have hk1 : ((k : Int) == 1) = false := by simp; omega
  have hk2 : (0 : Int) ≤ (k : Int) := by omega
  clear hS hj a1 hO l0 hl hlen cj ca hx v1 v4
  go_enter Tryz.func28, Tryz.ntmps28
  go_wp2_with fail
  refine (K1.out _ (Fr0.refl w)).mono ?_
  rintro e w' ⟨rfl, rfl⟩
  go_wp2_with fail
  refine (A1.out _ (Fr0.refl w)).mono ?_
  rintro e w1 ⟨rfl, hf1⟩
  go_wp2_with fail
  refine (CM.out _).mono ?_
  rintro e w' ⟨rfl, rfl⟩
  go_wp2_with fail
  refine (CF.out _ ((hf1.alloc _).alloc _)).mono ?_
  rintro e w4 ⟨rfl, hf4⟩
  have hx4 := hf4.kept (alloc2_0 _ _ _)
  have hr4 := hf4.kept (alloc2_1 _ _ _)
  have hW4 := ((hf1.alloc _).alloc _).trans hf4
  clear hf4 hf1 CF K1 A1 CM
  generalize w1.heap.size = N at *
  clear w1
  obtain ⟨x5, x6, x7, x8, x9, x10, x11, x12, lx⟩ := cells13 hx4
  obtain ⟨r1, r2, r3, r4, r5, lr⟩ := cells5 hr4
  go_wp2_with fail
  refine (CJ.out _).mono ?_
  rintro e w5 ⟨rfl, hf5⟩
  have hx5 := hf5.kept hx4
  have hr5 := hf5.kept hr4
  have hW5 := hW4.trans hf5
  clear hf5 hW4 x5 x6 x7 x8 x9 x10 x11 x12 lx r1 r2 r3 r4 r5 lr hx4 hr4 CJ
  clear w4
  obtain ⟨x5, x6, x7, x8, x9, x10, x11, x12, lx⟩ := cells13 hx5
  obtain ⟨r1, r2, r3, r4, r5, lr⟩ := cells5 hr5
  clear x5 x6 x7 x8 x9 x10 hx5 hr5
  have n1 : ¬ w5.heap.size = N := by omega
  have n2 : ¬ w5.heap.size = N + 1 := by omega
  go_wp2_with fail
  refine (CA.out _ _ _ (hW5.alloc _)).mono ?_
  rintro e w6 ⟨rfl, hst⟩
  go_wp2_with fail
  go_ret2
  exact ⟨rfl, hst.before (hW5.alloc _)⟩

theorem st_Power {w : World} {p mb : Nat} {most : Int} {sv : Value} {L : List Ent} (hS : St w p mb most sv L) (hO : SOk L) (l : Int) (k : Nat) (hl : isKnown L l) (l0 : l ≠ 0) (hk : 2 ≤ k)
    (hlen : (entAt L l).wt.len * k ≤ 1152921504606846976) (hm : (L.length : Int) < most) (hL : L.length < 1048576) :
    Calls Tryz.prog 28 #[.pointer (some ⟨p, 0, none⟩), .int .i64 l, .int .i64 k] w fun e w' => e = .returned (.tuple #[.int .i64 (addI L (powEnt L l k)), .nilIface]) ∧ Stepped w w' p mb most sv (addL L (powEnt L l k)) := by
  cases hj : ruleIdx (powEnt L l k).rule L with
  | some j =>
    rw [addI_some hj, addL_some hj]
    exact (st_Power_some hS hO l k hl l0 hk hlen j hj).mono fun e w' ⟨h1, h2⟩ => ⟨h1, Stepped.same hS h2⟩
  | none =>
    rw [addI_none hj, addL_none hj]
    exact st_Power_none hS hO l k hl l0 hk hlen hj hm hL

end Go.Proofs.YtodmpcnpedpheaaGreatDoor

/- Strings as letters; balance.Text over a store with room. -/
set_option linter.unusedSimpArgs false
set_option linter.unusedVariables false
namespace Go.Proofs.YtodmpcnpedpheaaGreatDoor
open Go.RowKit

/-- The letters of a string. -/
def sbs (s : ByteArray) : List Int := s.data.toList.map fun b => (b.toNat : Int)

theorem sbs_len (s : ByteArray) : (sbs s).length = s.size := by unfold sbs; rw [List.length_map]; rfl
theorem sbs_rng (s : ByteArray) : ∀ x ∈ sbs s, 0 ≤ x ∧ x < 256 := by
  intro x hx
  obtain ⟨b, _, rfl⟩ := List.mem_map.1 hx
  have := b.toNat_lt
  omega
/-- The text of a text by halves. -/
theorem textR_txt : ∀ (f : Nat) (L : List Ent) (bs : List Int), SOk L → DOk L → 1 ≤ bs.length → bs.length ≤ f → bs.length ≤ 65536 → (∀ x ∈ bs, 0 ≤ x ∧ x < 256) → txt (textR f L bs).1 (textR f L bs).2 = bs := by
  intro f
  induction f with
  | zero => intro L bs _ _ h1 h2; omega
  | succ f ih =>
    intro L bs hs hd h1 h2 h3 hr
    have hok := textR_ok (f + 1) L bs hs hd h1 h2 h3 hr
    revert hok
    unfold textR
    by_cases h : bs.length = 1
    · rw [if_pos h]
      obtain ⟨b, rfl⟩ : ∃ b, bs = [b] := List.length_eq_one_iff.1 h
      intro hok
      have e := ent_letter hd b
      have k := txt_letter hok.known hok.ne (by show (entAt (addL L (letterEnt b)) (addI L (letterEnt b))).rule.kind = 1; rw [e]; rfl)
      refine k.trans ?_
      show [(entAt (addL L (letterEnt b)) (addI L (letterEnt b))).rule.letter] = _
      rw [e]; rfl
    · rw [if_neg h]
      intro hok
      have ra : ∀ x ∈ bs.take (bs.length / 2), 0 ≤ x ∧ x < 256 := fun x hx => hr x (List.mem_of_mem_take hx)
      have rb : ∀ x ∈ bs.drop (bs.length / 2), 0 ≤ x ∧ x < 256 := fun x hx => hr x (List.mem_of_mem_drop hx)
      have ta := textR_ok f L (bs.take (bs.length / 2)) hs hd (by simp; omega) (by simp; omega) (by simp; omega) ra
      have tb := textR_ok f (textR f L (bs.take (bs.length / 2))).1 (bs.drop (bs.length / 2)) ta.sok ta.dok (by simp; omega) (by simp; omega) (by simp; omega) rb
      have ia := ih L (bs.take (bs.length / 2)) hs hd (by simp; omega) (by simp; omega) (by simp; omega) ra
      have ib := ih (textR f L (bs.take (bs.length / 2))).1 (bs.drop (bs.length / 2)) ta.sok ta.dok (by simp; omega) (by simp; omega) (by simp; omega) rb
      generalize textR f L (bs.take (bs.length / 2)) = XA at *
      generalize textR f XA.1 (bs.drop (bs.length / 2)) = XB at *
      obtain ⟨A, a⟩ := XA
      obtain ⟨C, c⟩ := XB
      dsimp only at *
      have e := ent_pair tb.dok a c
      obtain ⟨M, hM⟩ := tb.ext
      obtain ⟨N, hN⟩ := addL_ext C (pairEnt C a c)
      have ka : isKnown C a := by rw [hM]; exact isKnown_append M ta.known
      have k := txt_pair hok.dok hok.known hok.ne (by show (entAt (addL C (pairEnt C a c)) (addI C (pairEnt C a c))).rule.kind = 2; rw [e]; rfl)
      refine k.trans ?_
      show txt (addL C (pairEnt C a c)) (entAt (addL C (pairEnt C a c)) (addI C (pairEnt C a c))).rule.left ++ txt (addL C (pairEnt C a c)) (entAt (addL C (pairEnt C a c)) (addI C (pairEnt C a c))).rule.right = _
      rw [e]
      show txt (addL C (pairEnt C a c)) a ++ txt (addL C (pairEnt C a c)) c = _
      rw [hN, txt_append tb.dok N ka, txt_append tb.dok N tb.known]
      have ea : txt C a = txt A a := by rw [hM]; exact txt_append ta.dok M ta.known
      rw [ea, ia, ib, List.take_append_drop]

theorem textR_bal {f : Nat} {L : List Ent} {bs : List Int} (hs : SOk L) (hd : DOk L) (h1 : 1 ≤ bs.length) (h2 : bs.length ≤ f) (h3 : bs.length ≤ 65536) (hr : ∀ x ∈ bs, 0 ≤ x ∧ x < 256) :
    Bal (textR f L bs).1 (textR f L bs).2 bs (clog bs.length) ∧ Grows L (textR f L bs).1 (2 * bs.length) := by
  have h := textR_ok f L bs hs hd h1 h2 h3 hr
  exact ⟨⟨h.known, h.ne, textR_txt f L bs hs hd h1 h2 h3 hr, h.even, h.depth⟩, ⟨h.ext, by have := h.len; omega, h.sok, h.dok⟩⟩

/-- The bytes of a string, as a conversion leaves them. -/
theorem bytes_conv (w : World) (s : ByteArray) (cap : Nat) (f : Nat × Nat) : BytesAt (w.alloc (.cells (bytesRow s cap) 5 f)) w.heap.size 0 (sbs s) := by
  refine ⟨⟨_, _, alloc_at _ _ _ rfl, fun i hi => ?_⟩, sbs_rng s⟩
  have hs : i < s.data.size := by rw [sbs_len] at hi; exact hi
  rw [Nat.zero_add, bytesRow_at s cap i hs]
  simp [sbs]

theorem bytes_convH (w : World) (H : Nat) (hH : w.heap.size = H) (s : ByteArray) (cap : Nat) (f : Nat × Nat) : BytesAt (w.alloc (.cells (bytesRow s cap) 5 f)).drew H 0 (sbs s) := by
  subst hH
  exact ⟨(bytes_conv w s cap f).blk, sbs_rng s⟩

theorem conv_bytes (w : World) (s : ByteArray) : ∃ cap f, (convert 9 70 (.string s)).run Tryz.prog w = .ok (.slice (some ⟨w.heap.size, 0, none⟩) s.size cap) (w.alloc (.cells (bytesRow s cap) 5 f)).drew ∧ s.size ≤ cap ∧ (s.size ≤ maxLen → cap ≤ maxLen) :=
  ⟨grownCap w s.size 0 5, _, run_bytes_of_string w 9 70 5 s Tryz.underlying9 Tryz.underlying70 Tryz.underlying5, grownCap_ge _ _ _ _, fun h => grownCap_le_maxLen _ _ _ _ h⟩

end Go.Proofs.YtodmpcnpedpheaaGreatDoor

/- A map from IDs to true, held exactly. -/
set_option linter.unusedSimpArgs false
set_option linter.unusedVariables false
namespace Go.Proofs.YtodmpcnpedpheaaGreatDoor
open Go.RowKit

def idEntries : Nat → List Int → List MapEntry
  | _, [] => []
  | i, x :: r => { key := .int .i64 x, val := .bool true, born := i } :: idEntries (i + 1) r

theorem idEntries_push (x : Int) : ∀ (xs : List Int) (i : Nat), idEntries i (xs ++ [x]) = idEntries i xs ++ [{ key := .int .i64 x, val := .bool true, born := i + xs.length }] := by
  intro xs
  induction xs with
  | nil => intro i; simp [idEntries]
  | cons y r ih =>
    intro i
    simp only [List.cons_append, idEntries, ih (i + 1), List.length_cons]
    rw [show i + 1 + r.length = i + (r.length + 1) by omega]

theorem findNow_ids (x : Int) : ∀ (xs : List Int) (i j : Nat), Instr.findNow (.int .i64) (.int .i64 x) (idEntries i xs) j = some (if x ∈ xs then some (j + xs.findIdx (· == x), .bool true) else none) := by
  intro xs
  induction xs with
  | nil => intro i j; simp [idEntries, Instr.findNow]
  | cons y r ih =>
    intro i j
    simp only [idEntries, Instr.findNow, Instr.sameNow, if_true]
    by_cases h : x = y
    · subst h; simp [List.findIdx_cons]
    · have h1 : (x == y) = false := by simpa using h
      have h2 : (y == x) = false := by simpa using Ne.symm h
      simp only [h1, ih (i + 1) (j + 1), List.mem_cons, h, false_or, List.findIdx_cons, h2, cond_false]
      split
      · rw [show j + 1 + r.findIdx (· == x) = j + (r.findIdx (· == x) + 1) by omega]
      · rfl

theorem run_findIds (x : Int) (xs : List Int) (w : World) : (Instr.findKey 38 (.int .i64 x) (idEntries 0 xs)).run Tryz.prog w = .ok (if x ∈ xs then some (xs.findIdx (· == x), .bool true) else none) w := by
  have h := findNow_ids x xs 0 0
  rw [Nat.zero_add] at h
  simp [Instr.findKey, go_sem, h]

theorem id_check (em : Bool) (x : Int) (w : World) : (Instr.checkKey em 10000 38 (.int .i64 x)).run Tryz.prog w = .ok () w := by
  have h : ∀ d, (Instr.checkKey em (d + 1) 38 (.int .i64 x)).run Tryz.prog w = .ok () w := fun d => by simp [Instr.checkKey, go_sem]
  exact h 9999

theorem run_lookup_id {mb : Nat} {xs : List Int} {c : Nat} (x : Int) (w : World) (hm : w.heap[mb]? = some (.map (idEntries 0 xs).toArray c)) :
    (Instr.lookup 212 (.map (some mb)) (.int .i64 x) false).run Tryz.prog w = .ok (.bool (decide (x ∈ xs))) w := by
  have h1 := run_findIds x xs w
  by_cases hx : x ∈ xs
  · rw [if_pos hx] at h1
    simp [Instr.lookup, go_sem, getObj, Sem.run, hm, id_check, h1, hx]
  · rw [if_neg hx] at h1
    simp [Instr.lookup, go_sem, getObj, Sem.run, hm, id_check, h1, hx]

theorem run_update_id {mb : Nat} {xs : List Int} (x : Int) (w : World) (hm : w.heap[mb]? = some (.map (idEntries 0 xs).toArray xs.length)) (hx : x ∉ xs) :
    (Instr.mapUpdate 212 (.map (some mb)) (.int .i64 x) (.bool true)).run Tryz.prog w = .ok () (setB w mb (.map (idEntries 0 (xs ++ [x])).toArray (xs ++ [x]).length)) := by
  have h1 := run_findIds x xs w
  rw [if_neg hx] at h1
  rw [idEntries_push]
  simp [Instr.mapUpdate, go_sem, getObj, setObj, Sem.run, hm, id_check, h1, setB]

end Go.Proofs.YtodmpcnpedpheaaGreatDoor

/- append(s, make([]T, m)...): zeros behind a slice that the call owns. -/
import Derived.Test.YtodmpcnpedpheaaDoorQSpl1
import Derived.Test.YtodmpcnpedpheaaDoorQKy1
import Derived.Laws.AppendOwn
import Derived.Laws.CopyRow
import Derived.Test.YtodmpcnpedpheaaDoorQSt8
import Derived.Deep.QuietTactic
import Derived.BigQuiet
set_option linter.unusedSimpArgs false
set_option linter.unusedVariables false
namespace Go.Proofs.YtodmpcnpedpheaaDoor
open Go.RowKit

theorem wrap_nat63 {m : Nat} (h : m ≤ maxLen) : IntKind.i64.wrap (m : Int) = m := by
  simp only [maxLen] at h
  simp [IntKind.wrap, IntKind.bits, IntKind.signed]
  omega

set_option maxHeartbeats 1000000 in
theorem run_zeros {P : Program} (w : World) (base : Nat) (t tn ty e : TypeId) (i : TypeInfo) (z : Value) (size bytes : Nat) (ht : P.underlying t = some (.slice e)) (htn : P.underlying tn = some (.int .i64)) (hi : P.info? e = some i) (hz : i.zero = some z)
    (hsize : i.size = size) (hby : i.bytes = bytes) (hzs : z.cells.size = size) (hsz : 0 < size)
    (v : Value) (n : Nat) (xs : List Value) (hown : w.ownsRow base e size v n xs) (m : Nat) (hm : 0 < m)
    (h1 : ∀ u ∈ (Builtin.zeroCells z.cells m).toList, u.oneCell' = true) (h63 : n + m ≤ maxLen) (hbytes : (n + m) * bytes ≤ 140737488355328) (hbase : base ≤ w.heap.size) :
    ∃ v' w', (Builtin.append_ #[t, tn] ty #[v, .int .i64 m]).run P w = .ok v' w' ∧ w'.ownsRow base e size v' (n + m) (xs ++ (Builtin.zeroCells z.cells m).toList) ∧ w.grownBy w' v.ownBlock ∧ (v'.ownBlock = v.ownBlock ∨ v'.ownBlock = some w.heap.size) := by
  subst hsize
  subst hby
  have hsmall : n + m ≤ 9223372036854775807 := by simp only [maxLen] at h63; omega
  have hwr : IntKind.i64.wrap (m : Int) = m := wrap_nat63 (by omega)
  have hl : (Builtin.zeroCells z.cells m).toList.length = m * i.size := by rw [Array.length_toList, size_zeroCells, hzs]
  have hnz : m * i.size ≠ 0 := by
    have := Nat.mul_pos hm hsz
    omega
  have hlen : (xs ++ (Builtin.zeroCells z.cells m).toList).length = (n + m) * i.size := by rw [List.length_append, hown.1, hl, Nat.add_mul]
  have hmb : m * i.bytes ≤ 140737488355328 := Nat.le_trans (Nat.mul_le_mul_right _ (by omega)) hbytes
  have hb48 : ¬ (281474976710656 < (m : Int) * (i.bytes : Int)) := by
    rw [← Int.natCast_mul]; omega
  have hneg : ¬ ((m : Int) < 0) := by omega
  have h63' : ¬ (9223372036854775807 < ((n : Int) + (m : Int))) := by omega
  rcases hown.2 with ⟨rfl, rfl⟩ | ⟨g, cap, cur, rfl, hbg, hg, hnc, hcm, hcs, htake⟩
  · have hx : xs = [] := List.eq_nil_of_length_eq_zero (by simpa using hown.1)
    subst hx
    have h48' : ¬ (281474976710656 < Builtin.nextslicecap m 0 * i.bytes) := by
      have := growslice_fits (need := m) (old := 0) (by omega) hmb
      omega
    have hm0 : ¬ m = 0 := by omega
    have hge := grownCap_ge w m 0 e
    have hcm : grownCap w m 0 e ≤ maxLen := grownCap_le_maxLen w m 0 e (by omega)
    refine ⟨.slice (some ⟨w.heap.size, 0, none⟩) m (grownCap w m 0 e), w.drew.alloc (.cells (Builtin.zeroCells z.cells m ++ Builtin.zeroCells z.cells (grownCap w m 0 e - m)) e), ?_, ?_, ?_, .inr rfl⟩
    · simp [Builtin.append_, run_underlying ht, run_underlying htn, sizeOf, typeInfo, zeroValue, hi, hz, asInt, asIntOf, hwr, hneg, hb48, hm0, hnz, h63', h48', Builtin.firstCells, Question.forced, newRow, grownCap]
      intro h; omega
    · rw [Nat.zero_add, List.nil_append]
      rw [Nat.zero_add, List.nil_append] at hlen
      refine ⟨hlen, .inr ⟨w.heap.size, _, _, rfl, hbase, heap_alloc_new w.drew _, by omega, hcm, ?_, ?_⟩⟩
      · rw [Array.size_append, size_zeroCells, size_zeroCells, hzs, ← Nat.add_mul]
        congr 1
        omega
      · rw [Array.toList_append, ← hl]
        exact List.take_left
    · exact ⟨rfl, rfl, rfl, by simp, fun k hk _ => Go.heap_alloc_old w.drew _ (by simpa using hk)⟩
  · by_cases hroom : n + m ≤ cap
    · have hfit : n * i.size + (Builtin.zeroCells z.cells m).toList.length ≤ cur.size := by rw [hl, hcs, ← Nat.add_mul]; exact Nat.mul_le_mul_right _ hroom
      have hst := run_storeCells_at P g (n * i.size) e (Builtin.zeroCells z.cells m).toList 0 cur w hg (by simpa using hfit) h1
      simp only [Nat.add_zero] at hst
      refine ⟨.slice (some ⟨g, 0, none⟩) (n + m) cap, w.setRow g (cur.toList.take (n * i.size) ++ (Builtin.zeroCells z.cells m).toList ++ cur.toList.drop (n * i.size + (Builtin.zeroCells z.cells m).toList.length)).toArray, ?_, ?_, ?_, .inl rfl⟩
      · simp [Builtin.append_, run_underlying ht, run_underlying htn, sizeOf, typeInfo, zeroValue, hi, hz, asInt, asIntOf, hwr, hneg, hb48, hnz, hroom, Addr.add_lit, hst]
      · refine ⟨hlen, .inr ⟨g, cap, _, rfl, hbg, setRow_heap w g cur _ e _ hg, hroom, hcm, ?_, ?_⟩⟩
        · simp only [List.size_toArray, List.length_append, List.length_take, List.length_drop, Array.length_toList] at hfit ⊢
          omega
        · rw [htake, ← hlen]
          exact List.take_left
      · exact ⟨rfl, rfl, rfl, by simp, fun k _ hk => setRow_other w g k _ (fun e => hk (by simp [Value.ownBlock, e]))⟩
    · have holds : ∀ j u, xs[j]? = some u → w.cell? ((⟨g, 0, none⟩ : Addr).add j) = some u := hown.cells (g := g) rfl
      have h48' : ¬ (281474976710656 < Builtin.nextslicecap (n + m) cap * i.bytes) := by
        have := growslice_fits (need := n + m) (old := cap) (by omega) hbytes
        omega
      have hfo := run_firstCells_some (P := P) w.drew i.size n ⟨g, 0, none⟩ n cap xs hown.1 (by simpa using holds)
      have hge := grownCap_ge w (n + m) cap e
      have hcm2 : grownCap w (n + m) cap e ≤ maxLen := grownCap_le_maxLen w (n + m) cap e h63
      refine ⟨.slice (some ⟨w.heap.size, 0, none⟩) (n + m) (grownCap w (n + m) cap e), w.drew.alloc (.cells (xs.toArray ++ Builtin.zeroCells z.cells m ++ Builtin.zeroCells z.cells (grownCap w (n + m) cap e - (n + m))) e), ?_, ?_, ?_, .inr rfl⟩
      · simp [Builtin.append_, run_underlying ht, run_underlying htn, sizeOf, typeInfo, zeroValue, hi, hz, asInt, asIntOf, hwr, hneg, hb48, hnz, hroom, h63', h48', hfo, Question.forced, newRow, grownCap]
      · refine ⟨hlen, .inr ⟨w.heap.size, _, _, rfl, hbase, heap_alloc_new w.drew _, by omega, hcm2, ?_, ?_⟩⟩
        · simp only [Array.size_append, List.size_toArray, size_zeroCells, hzs, hown.1, ← Nat.add_mul]
          congr 1
          omega
        · simp only [Array.toList_append]
          rw [← hlen]
          exact List.take_left
      · exact ⟨rfl, rfl, rfl, by simp, fun k hk _ => Go.heap_alloc_old w.drew _ (by simpa using hk)⟩

/-- The same, as one step of a region that draws. -/
theorem step_zeros {P : Program} {w : World} {ops : Array Oper} {o : Oper} {a : Act} {K : Act → World → Prop} {Q : Exit → Act → World → Prop} {E : Prop} (hgd : o.guard = none) (s x : Operand) (t tn : TypeId)
    (ho : o.op = .call { callee := .builtin .append, args := #[s, x], argTypes := #[t, tn] })
    (base : Nat) (e : TypeId) (i : TypeInfo) (z : Value) (size bytes : Nat) (ht : P.underlying t = some (.slice e)) (htn : P.underlying tn = some (.int .i64)) (hi : P.info? e = some i) (hz : i.zero = some z)
    (hsize : i.size = size) (hby : i.bytes = bytes) (hzs : z.cells.size = size) (hsz : 0 < size)
    (v : Value) (n : Nat) (xs : List Value) (hs : a.eval s = v) (hown : w.ownsRow base e size v n xs) (m : Nat) (hx : a.eval x = .int .i64 m) (hm : 0 < m)
    (h1 : ∀ u ∈ (Builtin.zeroCells z.cells m).toList, u.oneCell' = true) (h63 : n + m ≤ maxLen) (hbytes : (n + m) * bytes ≤ 140737488355328) (hbase : base ≤ w.heap.size)
    (hK : ∀ v' w', w'.ownsRow base e size v' (n + m) (xs ++ (Builtin.zeroCells z.cells m).toList) → w.grownBy w' v.ownBlock → (v'.ownBlock = v.ownBlock ∨ v'.ownBlock = some w.heap.size) → K (a.put o.dst v') w') :
    if Region.wanted o (yielded ops a.tmps) = true then Oper.wp P o a w K Q else E := by
  have hw : Region.wanted o (yielded ops a.tmps) = true := by simp [Region.wanted, hgd]
  rw [if_pos hw]
  obtain ⟨v', w', hr, h2, h3, h4⟩ := run_zeros (P := P) w base t tn o.type e i z size bytes ht htn hi hz hsize hby hzs hsz v n xs hown m hm h1 h63 hbytes hbase
  unfold Oper.wp execOp
  simp only [ho, resolve, invoke, builtin, Sem.run_bind, Sem.run_pure, Result.andThen_ok, List.map_toArray, List.map_cons, List.map_nil, hs, hx, hr]
  exact hK _ _ h2 h3 h4

theorem zeroRows : ∀ m : Nat, (Builtin.zeroCells #[.int .u64 0, .int .i64 0, .bool false] m).toList = (List.replicate m blankR).flatMap KRow.vals
  | 0 => by simp [Builtin.zeroCells]
  | m + 1 => by
    rw [List.replicate_succ', List.flatMap_append, ← zeroRows m]
    simp [Builtin.zeroCells, List.range_succ, show (m + 1) * 3 = m * 3 + 1 + 1 + 1 by omega, KRow.vals, blankR, Nat.add_mod, Nat.mul_mod_left]

theorem zeroRows_one (m : Nat) : ∀ u ∈ (Builtin.zeroCells (Value.agg #[.int .u64 0, .int .i64 0, .bool false]).cells m).toList, u.oneCell' = true := by
  intro u hu
  have e : (Builtin.zeroCells (Value.agg #[.int .u64 0, .int .i64 0, .bool false]).cells m).toList = _ := zeroRows m
  rw [e] at hu
  rw [List.mem_flatMap] at hu
  obtain ⟨r, hr, hu⟩ := hu
  obtain ⟨_, rfl⟩ := List.mem_replicate.1 hr
  simp [KRow.vals, blankR] at hu
  rcases hu with rfl | rfl | rfl <;> rfl

end Go.Proofs.YtodmpcnpedpheaaDoor

/- Rows of a blame, and the walk of builder.add. -/
set_option linter.unusedSimpArgs false
set_option linter.unusedVariables false
namespace Go.Proofs.YtodmpcnpedpheaaDoor
open Go.RowKit

structure Rw where
  fr : Int
  n : Int
  ver : Int
  org : Int
deriving DecidableEq, Inhabited

def Rw.vals (r : Rw) : List Value := [.int .i64 r.fr, .int .i64 r.n, .int .i64 r.ver, .int .i64 r.org]
def rowCells (rs : List Rw) : List Value := rs.flatMap Rw.vals

/-- The rows after n letters of a version have been added behind len letters. -/
def addRow (rs : List Rw) (len n ver org : Int) : List Rw :=
  if n = 0 then rs else
  match rs.getLast? with
  | none => [⟨len, n, ver, org⟩]
  | some r => if r.ver = ver ∧ r.org + r.n = org then rs.dropLast ++ [⟨r.fr, r.n + n, r.ver, r.org⟩] else rs ++ [⟨len, n, ver, org⟩]


end Go.Proofs.YtodmpcnpedpheaaDoor

/- The walk of builder.add where the last row goes on. -/
set_option linter.unusedSimpArgs false
set_option linter.unusedVariables false
namespace Go.Proofs.YtodmpcnpedpheaaDoor
open Go.RowKit

theorem owns_set_own {w : World} {base : Nat} {e : TypeId} {size n cap g : Nat} {xs : List Value} (h : w.ownsRow base e size (.slice (some ⟨g, 0, none⟩) n cap) n xs) (j : Nat) (u : Value) (hj : j < xs.length) : (w.setCell ⟨g, j, none⟩ u).ownsRow base e size (.slice (some ⟨g, 0, none⟩) n cap) n (xs.set j u) := by
  refine ⟨by rw [List.length_set]; exact h.1, .inr ?_⟩
  rcases h.2 with ⟨h1, _⟩ | ⟨g', cap', cur, h1, hb, hg, h2, h3, h4, h5⟩
  · cases h1
  · simp only [Value.slice.injEq, Option.some.injEq, Addr.mk.injEq] at h1
    obtain ⟨⟨rfl, _, _⟩, _, rfl⟩ := h1
    refine ⟨g, cap, _, rfl, hb, setCell_block hg j u, h2, h3, by simpa using h4, ?_⟩
    rw [← h5, Array.toList_setIfInBounds, List.take_set]

theorem rowCells_set (init : List Rw) (r : Rw) (m : Int) : (rowCells (init ++ [r])).set (init.length * 4 + 1) (.int .i64 m) = rowCells (init ++ [⟨r.fr, m, r.ver, r.org⟩]) := by
  have hl : (rowCells init).length = init.length * 4 := flat_len Rw.vals 4 init (fun _ _ => rfl)
  unfold rowCells at *
  rw [List.flatMap_append, List.flatMap_append, List.set_append_right _ _ (by omega), hl]
  simp [Rw.vals]

/-- The last row's numbers are small. -/
def lastOk (rs : List Rw) (n : Int) : Prop := ∀ r, rs.getLast? = some r → 0 ≤ r.org ∧ 0 ≤ r.n ∧ r.org + r.n ≤ 9223372036854775807 ∧ r.n + n ≤ 9223372036854775807

end Go.Proofs.YtodmpcnpedpheaaDoor

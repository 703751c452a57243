/- The walks of rule.Refs and of the store's reach. -/
import Derived.Test.YtgldjpldldknoaaGreatDoorQSt5
import Derived.Test.YtgldjpldldknoaaGreatDoorQMap
import Derived.Test.YtgldjpldldknoaaGreatDoorQSet
import Derived.Test.YtgldjpldldknoaaGreatDoorSort
import Derived.Sort.OwnSortedInts
import Derived.Deep.LoopGhost
import Derived.Deep.RegionHeld3
import Derived.Deep.RegionLaw
import Derived.Lib.SlBytesConst
set_option linter.unusedSimpArgs false
set_option linter.unusedVariables false
namespace Go.Proofs.YtgldjpldldknoaaGreatDoor
open Go.RowKit
structure RchR (w wr : World) (M : Nat) (v : Value) (ids : List Int) : Prop where
 own : OwnI 28 w wr v ids
 mp : wr.heap[M]? = some (Obj.map (idEntries 0 ids).toArray ids.length)
 new : w.heap.size ≤ M
theorem RchR.kept0 {w wr w' : World} {M : Nat} {v : Value} {ids : List Int} (h : RchR w wr M v ids) (hf : Fr0 wr w') : RchR w w' M v ids := ⟨h.own.kept0 hf, hf.kept h.mp, h.new⟩
structure RIn (w wr : World) (M : Nat) (v : Value) (ids : List Int) (a : Option Addr) (rs : List Int) : Prop where
 r : RchR w wr M v ids
 ints : IntsAt wr a rs
 apart : ∀ ad, a = some ad → ad.block < wr.heap.size ∧ v.ownBlock ≠ some ad.block
theorem RchR.marked {w wr : World} {M : Nat} {v : Value} {ids : List Int} (h : RchR w wr M v ids) (o : Obj) : OwnI 28 w (setB wr M o) v ids := by
 refine ⟨?_, Fr.setB h.own.fr M o (fun hl => by have := h.new; omega)⟩
 have hf : Fr (fun k => k = M) wr (setB wr M o) := Fr.setB (Fr.refl _ wr) M o (fun _ => rfl)
 refine hf.owns h.own.row (fun k hk e => ?_)
 subst e
 obtain ⟨cur, hc⟩ := owns_block h.own.row hk
 rw [h.mp] at hc
 cases hc
theorem RIn.push {w wr w1 : World} {M : Nat} {v v' : Value} {ids : List Int} {a : Option Addr} {rs : List Int} {x : Int} {T' : TypeId} (h : RIn w wr M v ids a rs)
    (hO1 : OwnI 28 w w1 v' (ids ++ [x])) (hg : ((setB wr M (Obj.map (idEntries 0 (ids ++ [x])).toArray (ids ++ [x]).length)).alloc (.cells #[.int .i64 x] T' (0, 0))).grownBy w1 v.ownBlock)
    (hat : v'.ownBlock = v.ownBlock ∨ v'.ownBlock = some ((setB wr M (Obj.map (idEntries 0 (ids ++ [x])).toArray (ids ++ [x]).length)).heap.size + 1)) : RIn w w1 M v' (ids ++ [x]) a rs := by
 have lM := lt_of_block h.r.mp
 have hs : (setB wr M (Obj.map (idEntries 0 (ids ++ [x])).toArray (ids ++ [x]).length)).heap[M]? = some (Obj.map (idEntries 0 (ids ++ [x])).toArray (ids ++ [x]).length) := setB_same lM
 have hO := h.r.marked (Obj.map (idEntries 0 (ids ++ [x])).toArray (ids ++ [x]).length)
 have hsz : wr.heap.size ≤ w1.heap.size := by have := hg.size; simp [setB_size] at this; omega
 rw [setB_size] at hat
 have key : ∀ b, b < wr.heap.size → b ≠ M → v.ownBlock ≠ some b → w1.heap[b]? = wr.heap[b]? := fun b hb hM hv =>
  (hg.block b (by simp [setB_size]; omega) (fun e => hv e.symm)).trans ((alloc_lt _ _ _ (by rw [setB_size]; exact hb)).trans (setB_other hM))
 refine ⟨⟨hO1, ?_, h.r.new⟩, ?_, ?_⟩
 · refine (hg.block M (by simp [setB_size]; omega) (fun e => ?_)).trans ((alloc_lt _ _ _ (by rw [setB_size]; exact lM)).trans hs)
   obtain ⟨cur, hc⟩ := owns_block hO.row e.symm
   rw [hs] at hc
   cases hc
 · intro i hi
   obtain ⟨b, off, cs, t, fr, rfl, h2, h3⟩ := h.ints i hi
   have := h.apart _ rfl
   exact ⟨b, off, cs, t, fr, rfl, (key b this.1 (fun e => by subst e; rw [h.r.mp] at h2; cases h2) this.2).trans h2, h3⟩
 · intro ad had
   obtain ⟨h1, h2⟩ := h.apart ad had
   refine ⟨by omega, fun e => ?_⟩
   rcases hat with e2 | e2
   · exact h2 (e2 ▸ e)
   · rw [e2] at e; simp at e; omega
end Go.Proofs.YtgldjpldldknoaaGreatDoor
/- The walk of a store's Export. -/
set_option linter.unusedSimpArgs false
set_option linter.unusedVariables false
namespace Go.Proofs.YtgldjpldldknoaaGreatDoor
open Go.RowKit
@[go_sem] theorem run_makeMap_hint (n : Int) (w : World) : (Instr.makeMap 101 (some (.int .i64 n))).run Tryz.prog w = .ok (.map (some w.heap.size)) (w.alloc (.map #[] 0)) := by kernel_rfl
def ruleCells (rs : List Rl) : List Value := rs.flatMap Rl.vals
theorem ruleCells_snoc (rs : List Rl) (r : Rl) : ruleCells (rs ++ [r]) = ruleCells rs ++ [.int .i64 r.kind, .int .u8 r.letter, .int .i64 r.left, .int .i64 r.right, .int .i64 r.times] := by simp [ruleCells, Rl.vals]
structure OwnR (w0 w : World) (v : Value) (rs : List Rl) : Prop where
 row : w.ownsRow w0.heap.size 82 5 v rs.length (ruleCells rs)
 fr : Fr0 w0 w
theorem OwnR.kept0 {w0 w w' : World} {v : Value} {xs : List Rl} (h : OwnR w0 w v xs) (hf : Fr0 w w') : OwnR w0 w' v xs := ⟨hf.owns h.row, h.fr.trans hf⟩
theorem OwnR.form {w0 w : World} {v : Value} {xs : List Rl} (h : OwnR w0 w v xs) : ∃ a cap, v = .slice a xs.length cap := owns_form h.row
theorem OwnR.ge {w0 w : World} {v : Value} {xs : List Rl} (h : OwnR w0 w v xs) (k : Nat) (hk : v.ownBlock = some k) : w0.heap.size ≤ k := (h.row.lt k hk).1
structure ExR (w wr : World) (M : Nat) (a : Option Addr) (v : Value) (out : List Int) (k : Nat) (rs : List Rl) : Prop where
 own : OwnR w wr v rs
 mp : wr.heap[M]? = some (Obj.map (ppEntries 0 (nums 0 (out.take k))).toArray (nums 0 (out.take k)).length)
 new : w.heap.size ≤ M
 ints : IntsAt wr a out
 apart : ∀ ad, a = some ad → v.ownBlock ≠ some ad.block ∧ w.heap.size ≤ ad.block ∧ ad.block < wr.heap.size
theorem ExR.next {w wc w4 : World} {M : Nat} {a : Option Addr} {v v' : Value} {out : List Int} {k : Nat} {rs : List Rl} {r : Rl} {o : Obj} (hF : Fr0 w wc) (hown : wc.ownsRow w.heap.size 82 5 v rs.length (ruleCells rs))
    (hm : wc.heap[M]? = some (Obj.map (ppEntries 0 (nums 0 (out.take (k + 1)))).toArray (nums 0 (out.take (k + 1))).length)) (hM : w.heap.size ≤ M) (hI : IntsAt wc a out) (hap : ∀ ad, a = some ad → v.ownBlock ≠ some ad.block ∧ w.heap.size ≤ ad.block ∧ ad.block < wc.heap.size)
    (q1 : w4.ownsRow w.heap.size 82 5 v' (rs.length + 1) (ruleCells rs ++ [.int .i64 r.kind, .int .u8 r.letter, .int .i64 r.left, .int .i64 r.right, .int .i64 r.times])) (q2 : (wc.alloc o).grownBy w4 v.ownBlock) (q3 : v'.ownBlock = v.ownBlock ∨ v'.ownBlock = some (wc.heap.size + 1)) : ExR w w4 M a v' out (k + 1) (rs ++ [r]) := by
 have key : ∀ b, b < wc.heap.size → v.ownBlock ≠ some b → w4.heap[b]? = wc.heap[b]? := fun b hb hv => (q2.block b (by simp; omega) (fun e => hv e.symm)).trans (alloc_lt _ _ _ hb)
 have hsz := q2.size
 simp at hsz
 refine ⟨⟨by rw [ruleCells_snoc]; simpa using q1, Fr.grown (Fr0.alloc hF o) q2 (fun j hj hlt => by have := (hown.lt j hj).1; omega)⟩, ?_, hM, fun i hi => ?_, fun ad had => ?_⟩
 · refine (key M (lt_of_block hm) (fun e => ?_)).trans hm
   obtain ⟨cur, hc⟩ := owns_block hown e
   rw [hm] at hc
   cases hc
 · obtain ⟨b, off, cs, t, fr, rfl, h2, h3⟩ := hI i hi
   exact ⟨b, off, cs, t, fr, rfl, (key b (lt_of_block h2) (hap _ rfl).1).trans h2, h3⟩
 · obtain ⟨h1, h2, h3⟩ := hap ad had
   refine ⟨fun e => ?_, h2, by omega⟩
   rcases q3 with e2 | e2
   · exact h1 (e2 ▸ e)
   · rw [e2] at e; simp at e; omega
end Go.Proofs.YtgldjpldldknoaaGreatDoor
/- Grammars of letters and pairs in memory, and the walks of evergreenref11's Rule, Check. -/
set_option linter.unusedSimpArgs false
set_option linter.unusedVariables false
namespace Go.Proofs.YtgldjpldldknoaaGreatDoor
open Go.RowKit
def RulesAt (w : World) (a : Option Addr) (rs : List Rl) : Prop :=
 ∀ i (h : i < rs.length), ∃ b off, a = some ⟨b, off, none⟩ ∧ b < w.heap.size ∧ w.cell? ⟨b, off + i * 5, none⟩ = some (.int .i64 rs[i].kind) ∧ w.cell? ⟨b, off + i * 5 + 1, none⟩ = some (.int .u8 rs[i].letter) ∧ w.cell? ⟨b, off + i * 5 + 2, none⟩ = some (.int .i64 rs[i].left) ∧
  w.cell? ⟨b, off + i * 5 + 3, none⟩ = some (.int .i64 rs[i].right) ∧ w.cell? ⟨b, off + i * 5 + 4, none⟩ = some (.int .i64 rs[i].times)
theorem RulesAt.kept0 {w w' : World} {a : Option Addr} {rs : List Rl} (h : RulesAt w a rs) (hf : Fr0 w w') : RulesAt w' a rs := by
 intro i hi
 obtain ⟨b, off, h1, h2, h3, h4, h5, h6, h7⟩ := h i hi
 exact ⟨b, off, h1, by have := Fr.size hf; omega, (hf.cell b _ h2).trans h3, (hf.cell b _ h2).trans h4, (hf.cell b _ h2).trans h5, (hf.cell b _ h2).trans h6, (hf.cell b _ h2).trans h7⟩
structure Gram (rs : List Rl) (tx : Nat → List Int) : Prop where
 ok : ∀ i (h : i < rs.length), (∃ c : Int, rs[i] = ⟨1, c, 0, 0, 0⟩ ∧ tx i = [c]) ∨ (∃ l r : Nat, l < i ∧ r < i ∧ rs[i] = ⟨2, 0, (l : Int) + 1, (r : Int) + 1, 0⟩ ∧ tx i = tx l ++ tx r)
 len : ∀ i, i < rs.length → ((tx i).length : Int) ≤ 1152921504606846976
 few : rs.length ≤ 1000000
end Go.Proofs.YtgldjpldldknoaaGreatDoor
/- The walks of evergreenref11's plain and Plain. -/
set_option linter.unusedSimpArgs false
set_option linter.unusedVariables false
namespace Go.Proofs.YtgldjpldldknoaaGreatDoor
open Go.RowKit
structure OwnB (w0 w : World) (v : Value) (t : List Int) : Prop where
 row : w.ownsRow w0.heap.size 5 1 v t.length (t.map fun x => Value.int .u8 x)
 fr : Fr0 w0 w
theorem OwnB.kept0 {w0 w w' : World} {v : Value} {t : List Int} (h : OwnB w0 w v t) (hf : Fr0 w w') : OwnB w0 w' v t := ⟨hf.owns h.row, h.fr.trans hf⟩
theorem OwnB.news {w0 w : World} {g cap : Nat} {t : List Int} (h : OwnB w0 w (.slice (some ⟨g, 0, none⟩) t.length cap) t) : ∀ j u, (t.map fun x => Value.int .u8 x)[j]? = some u → w.cell? ((⟨g, 0, none⟩ : Addr).add j) = some u := by
 rcases h.row.2 with ⟨e1, _⟩ | ⟨g', cap', cur, e1, _, hg, _, _, _, ht⟩
 · cases e1
 · cases e1
   intro j u hj
   have hlt : j < t.length := by
    have := (List.getElem?_eq_some_iff.1 hj).1
    simpa using this
   have h1 := congrArg (fun l => l[j]?) ht
   rw [List.getElem?_take_of_lt (by omega), hj] at h1
   have h2 : w.cell? ⟨g, j, none⟩ = some u := by
    rw [cell_of_block hg, ← Array.getElem?_toList]
    exact h1
   have e2 : (⟨g, 0, none⟩ : Addr).add j = ⟨g, j, none⟩ := by
    unfold Addr.add
    split
    · rename_i h0; rw [h0]
    · simp
   rw [e2]; exact h2
theorem Gram.pos {rs : List Rl} {tx : Nat → List Int} (h : Gram rs tx) : ∀ (m n : Nat), n < m → n < rs.length → 0 < (tx n).length
 | 0, n, h1, _ => by omega
 | m + 1, n, h1, h2 => by
  rcases h.ok n h2 with ⟨c, _, ht⟩ | ⟨l, r, hl, hr, _, ht⟩
  · rw [ht]; simp
  · rw [ht, List.length_append]
    have := Gram.pos h m l (by omega) (by omega)
    omega
end Go.Proofs.YtgldjpldldknoaaGreatDoor
/- The walk of evergreenlaw37.Store. -/
set_option linter.unusedSimpArgs false
set_option linter.unusedVariables false
namespace Go.Proofs.YtgldjpldldknoaaGreatDoor
open Go.RowKit
theorem Kp.all0 {mb : Nat} {w w1 w' : World} (h0 : Fr0 w w1) (h : Kp w.heap.size mb w1 w') : Fr0 w w' :=
 ⟨h.os.trans (Fr.os h0), h.tape.trans (Fr.tape h0), h.output.trans (Fr.output h0), Nat.le_trans (Fr.size h0) h.size, fun k hk hn => (h.low k hk (Nat.lt_of_lt_of_le hk (Fr.size h0))).trans (Fr.block h0 k hk hn)⟩
end Go.Proofs.YtgldjpldldknoaaGreatDoor
/- Laws of the statements about patches: one list of changes as an argument; lengths of patched texts. -/
set_option linter.unusedSimpArgs false
set_option linter.unusedVariables false
namespace Go.Proofs.YtgldjpldldknoaaGreatDoor
open Go.RowKit
theorem RG.fr0 {α : Type} {vals : α → List Value} {size B : Nat} {w w' : World} {a : Option Addr} {xs : List α} (h : RG vals size B w a xs) (hf : Fr0 w w') : RG vals size B w' a xs := h.kept0 hf
end Go.Proofs.YtgldjpldldknoaaGreatDoor

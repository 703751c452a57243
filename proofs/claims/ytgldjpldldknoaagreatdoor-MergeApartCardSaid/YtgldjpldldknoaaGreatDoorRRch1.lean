/- The walks of rule.Refs and of the store's reach. -/
import Derived.Test.YtgldjpldldknoaaGreatDoorRSt5
import Derived.Test.YtgldjpldldknoaaGreatDoorRMap
import Derived.Test.YtgldjpldldknoaaGreatDoorRSet
import Derived.Test.YtgldjpldldknoaaGreatDoorSort
import Derived.Sort.OwnSortedInts
import Derived.Deep.LoopGhost
import Derived.Deep.RegionHeld3
import Derived.Deep.RegionLaw
import Derived.Lib.SlBytesConst
import Derived.Deep.DeepCutAuto
import Derived.Deep.AppendLies
import Derived.Test.YtgldjpldldknoaaGreatDoorRKy0
set_option linter.unusedSimpArgs false
set_option linter.unusedVariables false
namespace Go.Proofs.YtgldjpldldknoaaGreatDoor
open Go.RowKit
structure RchR (w wr : World) (M : Nat) (v : Value) (ids : List Int) : Prop where
 own : OwnI 28 w wr v ids
 mp : wr.heap[M]? = some (Obj.map (idEntries 0 ids).toArray ids.length)
 new : w.heap.size ≤ M
theorem RchR.kept0 {w wr w' : World} {M : Nat} {v : Value} {ids : List Int} (h : RchR w wr M v ids) (hf : Fr0 wr w') : RchR w w' M v ids := ⟨h.own.kept0 hf, hf.kept h.mp, h.new⟩
structure RIn (w wr : World) (M : Nat) (v : Value) (ids : List Int) (a : Option Addr) (rs : List Int) : Prop where
 r : RchR w wr M v ids
 ints : IntsAt wr a rs
 apart : ∀ ad, a = some ad → ad.block < wr.heap.size ∧ v.ownBlock ≠ some ad.block
theorem RchR.marked {w wr : World} {M : Nat} {v : Value} {ids : List Int} (h : RchR w wr M v ids) (o : Obj) : OwnI 28 w (setB wr M o) v ids := by
 refine ⟨?_, Fr.setB h.own.fr M o (fun hl => by have := h.new; omega)⟩
 have hf : Fr (fun k => k = M) wr (setB wr M o) := Fr.setB (Fr.refl _ wr) M o (fun _ => rfl)
 refine hf.owns h.own.row (fun k hk e => ?_)
 subst e
 obtain ⟨cur, hc⟩ := owns_block h.own.row hk
 rw [h.mp] at hc
 cases hc
theorem RIn.push {w wr w1 : World} {M : Nat} {v v' : Value} {ids : List Int} {a : Option Addr} {rs : List Int} {x : Int} {T' : TypeId} (h : RIn w wr M v ids a rs)
    (hO1 : OwnI 28 w w1 v' (ids ++ [x])) (hg : ((setB wr M (Obj.map (idEntries 0 (ids ++ [x])).toArray (ids ++ [x]).length)).alloc (.cells #[.int .i64 x] T' (0, 0))).grownBy w1 v.ownBlock)
    (hat : v'.ownBlock = v.ownBlock ∨ v'.ownBlock = some ((setB wr M (Obj.map (idEntries 0 (ids ++ [x])).toArray (ids ++ [x]).length)).heap.size + 1)) : RIn w w1 M v' (ids ++ [x]) a rs := by
 have lM := lt_of_block h.r.mp
 have hs : (setB wr M (Obj.map (idEntries 0 (ids ++ [x])).toArray (ids ++ [x]).length)).heap[M]? = some (Obj.map (idEntries 0 (ids ++ [x])).toArray (ids ++ [x]).length) := setB_same lM
 have hO := h.r.marked (Obj.map (idEntries 0 (ids ++ [x])).toArray (ids ++ [x]).length)
 have hsz : wr.heap.size ≤ w1.heap.size := by have := hg.size; simp [setB_size] at this; omega
 rw [setB_size] at hat
 have key : ∀ b, b < wr.heap.size → b ≠ M → v.ownBlock ≠ some b → w1.heap[b]? = wr.heap[b]? := fun b hb hM hv =>
  (hg.block b (by simp [setB_size]; omega) (fun e => hv e.symm)).trans ((alloc_lt _ _ _ (by rw [setB_size]; exact hb)).trans (setB_other hM))
 refine ⟨⟨hO1, ?_, h.r.new⟩, ?_, ?_⟩
 · refine (hg.block M (by simp [setB_size]; omega) (fun e => ?_)).trans ((alloc_lt _ _ _ (by rw [setB_size]; exact lM)).trans hs)
   obtain ⟨cur, hc⟩ := owns_block hO.row e.symm
   rw [hs] at hc
   cases hc
 · intro i hi
   obtain ⟨b, off, cs, t, fr, rfl, h2, h3⟩ := h.ints i hi
   have := h.apart _ rfl
   exact ⟨b, off, cs, t, fr, rfl, (key b this.1 (fun e => by subst e; rw [h.r.mp] at h2; cases h2) this.2).trans h2, h3⟩
 · intro ad had
   obtain ⟨h1, h2⟩ := h.apart ad had
   refine ⟨by omega, fun e => ?_⟩
   rcases hat with e2 | e2
   · exact h2 (e2 ▸ e)
   · rw [e2] at e; simp at e; omega
end Go.Proofs.YtgldjpldldknoaaGreatDoor
/- The walk of a store's Export. -/
set_option linter.unusedSimpArgs false
set_option linter.unusedVariables false
namespace Go.Proofs.YtgldjpldldknoaaGreatDoor
open Go.RowKit
@[go_sem] theorem run_makeMap_hint (n : Int) (w : World) : (Instr.makeMap 101 (some (.int .i64 n))).run Tryz.prog w = .ok (.map (some w.heap.size)) (w.alloc (.map #[] 0)) := by kernel_rfl
def ruleCells (rs : List Rl) : List Value := rs.flatMap Rl.vals
theorem ruleCells_snoc (rs : List Rl) (r : Rl) : ruleCells (rs ++ [r]) = ruleCells rs ++ [.int .i64 r.kind, .int .u8 r.letter, .int .i64 r.left, .int .i64 r.right, .int .i64 r.times] := by simp [ruleCells, Rl.vals]
structure OwnR (w0 w : World) (v : Value) (rs : List Rl) : Prop where
 row : w.ownsRow w0.heap.size 82 5 v rs.length (ruleCells rs)
 fr : Fr0 w0 w
theorem OwnR.kept0 {w0 w w' : World} {v : Value} {xs : List Rl} (h : OwnR w0 w v xs) (hf : Fr0 w w') : OwnR w0 w' v xs := ⟨hf.owns h.row, h.fr.trans hf⟩
theorem OwnR.form {w0 w : World} {v : Value} {xs : List Rl} (h : OwnR w0 w v xs) : ∃ a cap, v = .slice a xs.length cap := owns_form h.row
theorem OwnR.ge {w0 w : World} {v : Value} {xs : List Rl} (h : OwnR w0 w v xs) (k : Nat) (hk : v.ownBlock = some k) : w0.heap.size ≤ k := (h.row.lt k hk).1
structure ExR (w wr : World) (M : Nat) (a : Option Addr) (v : Value) (out : List Int) (k : Nat) (rs : List Rl) : Prop where
 own : OwnR w wr v rs
 mp : wr.heap[M]? = some (Obj.map (ppEntries 0 (nums 0 (out.take k))).toArray (nums 0 (out.take k)).length)
 new : w.heap.size ≤ M
 ints : IntsAt wr a out
 apart : ∀ ad, a = some ad → v.ownBlock ≠ some ad.block ∧ w.heap.size ≤ ad.block ∧ ad.block < wr.heap.size
theorem ExR.next {w wc w4 : World} {M : Nat} {a : Option Addr} {v v' : Value} {out : List Int} {k : Nat} {rs : List Rl} {r : Rl} {o : Obj} (hF : Fr0 w wc) (hown : wc.ownsRow w.heap.size 82 5 v rs.length (ruleCells rs))
    (hm : wc.heap[M]? = some (Obj.map (ppEntries 0 (nums 0 (out.take (k + 1)))).toArray (nums 0 (out.take (k + 1))).length)) (hM : w.heap.size ≤ M) (hI : IntsAt wc a out) (hap : ∀ ad, a = some ad → v.ownBlock ≠ some ad.block ∧ w.heap.size ≤ ad.block ∧ ad.block < wc.heap.size)
    (q1 : w4.ownsRow w.heap.size 82 5 v' (rs.length + 1) (ruleCells rs ++ [.int .i64 r.kind, .int .u8 r.letter, .int .i64 r.left, .int .i64 r.right, .int .i64 r.times])) (q2 : (wc.alloc o).grownBy w4 v.ownBlock) (q3 : v'.ownBlock = v.ownBlock ∨ v'.ownBlock = some (wc.heap.size + 1)) : ExR w w4 M a v' out (k + 1) (rs ++ [r]) := by
 have key : ∀ b, b < wc.heap.size → v.ownBlock ≠ some b → w4.heap[b]? = wc.heap[b]? := fun b hb hv => (q2.block b (by simp; omega) (fun e => hv e.symm)).trans (alloc_lt _ _ _ hb)
 have hsz := q2.size
 simp at hsz
 refine ⟨⟨by rw [ruleCells_snoc]; simpa using q1, Fr.grown (Fr0.alloc hF o) q2 (fun j hj hlt => by have := (hown.lt j hj).1; omega)⟩, ?_, hM, fun i hi => ?_, fun ad had => ?_⟩
 · refine (key M (lt_of_block hm) (fun e => ?_)).trans hm
   obtain ⟨cur, hc⟩ := owns_block hown e
   rw [hm] at hc
   cases hc
 · obtain ⟨b, off, cs, t, fr, rfl, h2, h3⟩ := hI i hi
   exact ⟨b, off, cs, t, fr, rfl, (key b (lt_of_block h2) (hap _ rfl).1).trans h2, h3⟩
 · obtain ⟨h1, h2, h3⟩ := hap ad had
   refine ⟨fun e => ?_, h2, by omega⟩
   rcases q3 with e2 | e2
   · exact h1 (e2 ▸ e)
   · rw [e2] at e; simp at e; omega
end Go.Proofs.YtgldjpldldknoaaGreatDoor
/- Grammars of letters and pairs in memory, and the walks of evergreenref11's Rule, Check. -/
set_option linter.unusedSimpArgs false
set_option linter.unusedVariables false
namespace Go.Proofs.YtgldjpldldknoaaGreatDoor
open Go.RowKit
def RulesAt (w : World) (a : Option Addr) (rs : List Rl) : Prop :=
 ∀ i (h : i < rs.length), ∃ b off, a = some ⟨b, off, none⟩ ∧ b < w.heap.size ∧ w.cell? ⟨b, off + i * 5, none⟩ = some (.int .i64 rs[i].kind) ∧ w.cell? ⟨b, off + i * 5 + 1, none⟩ = some (.int .u8 rs[i].letter) ∧ w.cell? ⟨b, off + i * 5 + 2, none⟩ = some (.int .i64 rs[i].left) ∧
  w.cell? ⟨b, off + i * 5 + 3, none⟩ = some (.int .i64 rs[i].right) ∧ w.cell? ⟨b, off + i * 5 + 4, none⟩ = some (.int .i64 rs[i].times)
theorem RulesAt.kept0 {w w' : World} {a : Option Addr} {rs : List Rl} (h : RulesAt w a rs) (hf : Fr0 w w') : RulesAt w' a rs := by
 intro i hi
 obtain ⟨b, off, h1, h2, h3, h4, h5, h6, h7⟩ := h i hi
 exact ⟨b, off, h1, by have := Fr.size hf; omega, (hf.cell b _ h2).trans h3, (hf.cell b _ h2).trans h4, (hf.cell b _ h2).trans h5, (hf.cell b _ h2).trans h6, (hf.cell b _ h2).trans h7⟩
structure Gram (rs : List Rl) (tx : Nat → List Int) : Prop where
 ok : ∀ i (h : i < rs.length), (∃ c : Int, rs[i] = ⟨1, c, 0, 0, 0⟩ ∧ tx i = [c]) ∨ (∃ l r : Nat, l < i ∧ r < i ∧ rs[i] = ⟨2, 0, (l : Int) + 1, (r : Int) + 1, 0⟩ ∧ tx i = tx l ++ tx r)
 len : ∀ i, i < rs.length → ((tx i).length : Int) ≤ 1152921504606846976
 few : rs.length ≤ 1000000
end Go.Proofs.YtgldjpldldknoaaGreatDoor
/- The walks of evergreenref11's plain and Plain. -/
set_option linter.unusedSimpArgs false
set_option linter.unusedVariables false
namespace Go.Proofs.YtgldjpldldknoaaGreatDoor
open Go.RowKit
structure OwnB (w0 w : World) (v : Value) (t : List Int) : Prop where
 row : w.ownsRow w0.heap.size 5 1 v t.length (t.map fun x => Value.int .u8 x)
 fr : Fr0 w0 w
theorem OwnB.kept0 {w0 w w' : World} {v : Value} {t : List Int} (h : OwnB w0 w v t) (hf : Fr0 w w') : OwnB w0 w' v t := ⟨hf.owns h.row, h.fr.trans hf⟩
theorem OwnB.news {w0 w : World} {g cap : Nat} {t : List Int} (h : OwnB w0 w (.slice (some ⟨g, 0, none⟩) t.length cap) t) : ∀ j u, (t.map fun x => Value.int .u8 x)[j]? = some u → w.cell? ((⟨g, 0, none⟩ : Addr).add j) = some u := by
 rcases h.row.2 with ⟨e1, _⟩ | ⟨g', cap', cur, e1, _, hg, _, _, _, ht⟩
 · cases e1
 · cases e1
   intro j u hj
   have hlt : j < t.length := by
    have := (List.getElem?_eq_some_iff.1 hj).1
    simpa using this
   have h1 := congrArg (fun l => l[j]?) ht
   rw [List.getElem?_take_of_lt (by omega), hj] at h1
   have h2 : w.cell? ⟨g, j, none⟩ = some u := by
    rw [cell_of_block hg, ← Array.getElem?_toList]
    exact h1
   have e2 : (⟨g, 0, none⟩ : Addr).add j = ⟨g, j, none⟩ := by
    unfold Addr.add
    split
    · rename_i h0; rw [h0]
    · simp
   rw [e2]; exact h2
theorem Gram.pos {rs : List Rl} {tx : Nat → List Int} (h : Gram rs tx) : ∀ (m n : Nat), n < m → n < rs.length → 0 < (tx n).length
 | 0, n, h1, _ => by omega
 | m + 1, n, h1, h2 => by
  rcases h.ok n h2 with ⟨c, _, ht⟩ | ⟨l, r, hl, hr, _, ht⟩
  · rw [ht]; simp
  · rw [ht, List.length_append]
    have := Gram.pos h m l (by omega) (by omega)
    omega
end Go.Proofs.YtgldjpldldknoaaGreatDoor
/- The walk of evergreenlaw37.Store. -/
set_option linter.unusedSimpArgs false
set_option linter.unusedVariables false
namespace Go.Proofs.YtgldjpldldknoaaGreatDoor
open Go.RowKit
theorem Kp.all0 {mb : Nat} {w w1 w' : World} (h0 : Fr0 w w1) (h : Kp w.heap.size mb w1 w') : Fr0 w w' :=
 ⟨h.os.trans (Fr.os h0), h.tape.trans (Fr.tape h0), h.output.trans (Fr.output h0), Nat.le_trans (Fr.size h0) h.size, fun k hk hn => (h.low k hk (Nat.lt_of_lt_of_le hk (Fr.size h0))).trans (Fr.block h0 k hk hn)⟩
end Go.Proofs.YtgldjpldldknoaaGreatDoor
/- Laws of the statements about patches: one list of changes as an argument; lengths of patched texts. -/
set_option linter.unusedSimpArgs false
set_option linter.unusedVariables false
namespace Go.Proofs.YtgldjpldldknoaaGreatDoor
open Go.RowKit
theorem RG.fr0 {α : Type} {vals : α → List Value} {size B : Nat} {w w' : World} {a : Option Addr} {xs : List α} (h : RG vals size B w a xs) (hf : Fr0 w w') : RG vals size B w' a xs := h.kept0 hf
end Go.Proofs.YtgldjpldldknoaaGreatDoor
/- Plain words: pieces of a text and their letters; reading pieces from the left. No program. -/
set_option linter.unusedSimpArgs false
set_option linter.unusedVariables false
namespace Go.Proofs.YtgldjpldldknoaaGreatDoor
open Go.RowKit
structure Pm where
 text : Int
 from_ : Int
 n : Int
def Pm.vals (x : Pm) : List Value := [.int .i64 x.text, .int .i64 x.from_, .int .i64 x.n]
def runC (f : Int) (n : Nat) : List (Int × Int) := (List.range n).map fun (i : Nat) => (63, f + (i : Int))
theorem runC_len (f : Int) (n : Nat) : (runC f n).length = n := by simp [runC]
theorem runC_sub (f : Int) (n u m : Nat) (h : u + m ≤ n) : ((runC f n).drop u).take m = runC (f + (u : Int)) m := by
 apply List.ext_getElem
 · rw [List.length_take, List.length_drop, runC_len, runC_len]; omega
 · intro i h1 h2
   simp [runC]
   omega
def clP (tx : Int → List Int) (x : Pm) : List (Int × Int) := if x.text = 0 then runC x.from_ x.n.toNat else (cutL (tx x.text) x.from_ x.n).map embC
def flatP (tx : Int → List Int) (xs : List Pm) : List (Int × Int) := xs.flatMap (clP tx)
theorem flatP_cons (tx : Int → List Int) (x : Pm) (r : List Pm) : flatP tx (x :: r) = clP tx x ++ flatP tx r := rfl
theorem flatP_append (tx : Int → List Int) (a b : List Pm) : flatP tx (a ++ b) = flatP tx a ++ flatP tx b := by simp [flatP]
structure POk (MT : Nat) (L : List Ent) (x : Pm) : Prop where
 f0 : 0 ≤ x.from_
 n0 : 0 ≤ x.n
 up : x.from_ + x.n ≤ 1152921504606846976
 text : x.text ≠ 0 → ∃ t d, BalZ L x.text t d ∧ x.from_ + x.n ≤ t.length ∧ t.length ≤ MT
theorem POk.len {MT : Nat} {L : List Ent} {x : Pm} (h : POk MT L x) : ((clP (txt L) x).length : Int) = x.n := by
 unfold clP
 have := h.f0
 have := h.n0
 by_cases h0 : x.text = 0
 · rw [if_pos h0, runC_len]; omega
 · rw [if_neg h0, List.length_map]
   obtain ⟨t, d, hb, hl, _⟩ := h.text h0
   rw [hb.text]
   exact cut_len h.f0 h.n0 hl
theorem POk.sub {MT : Nat} {L : List Ent} {x : Pm} (h : POk MT L x) {u m : Int} (hu : 0 ≤ u) (hm : 0 ≤ m) (hl : u + m ≤ x.n) : POk MT L ⟨x.text, x.from_ + u, m⟩ ∧ clP (txt L) ⟨x.text, x.from_ + u, m⟩ = ((clP (txt L) x).drop u.toNat).take m.toNat := by
 have f0 := h.f0
 have n0 := h.n0
 have up := h.up
 refine ⟨⟨by show 0 ≤ x.from_ + u; omega, hm, by show x.from_ + u + m ≤ _; omega, fun h0 => ?_⟩, ?_⟩
 · obtain ⟨t, d, hb, hl2, hl3⟩ := h.text h0
   exact ⟨t, d, hb, by show x.from_ + u + m ≤ _; omega, hl3⟩
 · unfold clP
   by_cases h0 : x.text = 0
   · rw [if_pos h0, if_pos (show (⟨x.text, x.from_ + u, m⟩ : Pm).text = 0 from h0), runC_sub _ _ _ _ (by omega)]
     show runC (x.from_ + u) m.toNat = _
     congr 1
     omega
   · rw [if_neg h0, if_neg (show ¬ (⟨x.text, x.from_ + u, m⟩ : Pm).text = 0 from h0), ← List.map_drop, ← List.map_take]
     congr 1
     show cutL (txt L x.text) (x.from_ + u) m = _
     unfold cutL
     rw [List.drop_take, List.take_take, List.drop_drop]
     congr 1
     · omega
     · congr 1; omega
def restP (L : List Ent) (xs : List Pm) (u : Int) : List (Int × Int) := (flatP (txt L) xs).drop u.toNat
theorem restP_nil (L : List Ent) (u : Int) : restP L [] u = [] := by simp [restP, flatP]
theorem restP_zero (L : List Ent) (xs : List Pm) : restP L xs 0 = flatP (txt L) xs := by simp [restP]
theorem restP_step {MT : Nat} {L : List Ent} {x : Pm} {r : List Pm} (h : POk MT L x) {u m : Int} (hu : 0 ≤ u) (hm : 0 ≤ m) (hl : u + m ≤ x.n) :
    (restP L (x :: r) u).take m.toNat = clP (txt L) ⟨x.text, x.from_ + u, m⟩ ∧ (restP L (x :: r) u).drop m.toNat = restP L (x :: r) (u + m) ∧ (u + m = x.n → restP L (x :: r) (u + m) = restP L r 0) := by
 have hlen := h.len
 refine ⟨?_, ?_, ?_⟩
 · unfold restP
   rw [flatP_cons, List.drop_append_of_le_length (by omega), List.take_append_of_le_length (by rw [List.length_drop]; omega), (h.sub hu hm hl).2]
 · unfold restP
   rw [List.drop_drop, show u.toNat + m.toNat = (u + m).toNat by omega]
 · intro he
   rw [restP_zero]
   unfold restP
   rw [flatP_cons, List.drop_append_of_le_length (by omega), List.drop_of_length_le (by omega), List.nil_append]
theorem take_split {α : Type} (l : List α) (a b : Nat) (h : a ≤ b) : l.take b = l.take a ++ (l.drop a).take (b - a) := by
 conv => lhs; rw [show b = a + (b - a) by omega]
 rw [List.take_add]
structure RdS (MT : Nat) (L : List Ent) (G1 G2 : List (Int × Int)) (C : Int) (K : Nat) (tgt : Int) (ys xs : List Pm) (u at_ : Int) : Prop where
 g1 : flatP (txt L) ys ++ (restP L xs u).take (tgt - at_).toNat = G1
 g2 : (restP L xs u).drop (tgt - at_).toNat = G2
 c : at_ + ((restP L xs u).length : Int) = C
 k : ys.length + xs.length + (if at_ < tgt then 1 else 0) ≤ K
 oy : ∀ y ∈ ys, POk MT L y ∧ 0 < y.n
 ox : ∀ x ∈ xs, POk MT L x
 u0 : 0 ≤ u
 a0 : 0 ≤ at_
 ux : ∀ x r, xs = x :: r → u < x.n ∨ (u = 0 ∧ x.n = 0)
theorem RdS.next {MT : Nat} {L : List Ent} {G1 G2 : List (Int × Int)} {C : Int} {K : Nat} {tgt : Int} {ys : List Pm} {x : Pm} {r : List Pm} {u at_ m : Int} (h : RdS MT L G1 G2 C K tgt ys (x :: r) u at_) (hlt : at_ < tgt) (hm : m = min (x.n - u) (tgt - at_)) :
    (0 < m → RdS MT L G1 G2 C K tgt (ys ++ [⟨x.text, x.from_ + u, m⟩]) (if u + m = x.n then r else x :: r) (if u + m = x.n then 0 else u + m) (at_ + m)) ∧
    (m = 0 → RdS MT L G1 G2 C K tgt ys r 0 at_) := by
 have hx := h.ox x (by simp)
 have hu := h.u0
 have hux := h.ux x r rfl
 have hn0 := hx.n0
 have hm0 : 0 ≤ m := by omega
 have hml : u + m ≤ x.n := by omega
 obtain ⟨s1, s2, s3⟩ := restP_step (r := r) hx hu hm0 hml
 have hsub := hx.sub hu hm0 hml
 have hmt : m.toNat ≤ (tgt - at_).toNat := by omega
 have hg1 := h.g1
 have hg2 := h.g2
 have hc := h.c
 have hk := h.k
 rw [if_pos hlt] at hk
 have hrl : ((restP L (x :: r) u).length : Int) = m + ((restP L (x :: r) (u + m)).length : Int) := by
  rw [← s2, List.length_drop]
  have q1 := congrArg List.length s1
  rw [List.length_take] at q1
  have q2 : ((clP (txt L) ⟨x.text, x.from_ + u, m⟩).length : Int) = m := hsub.1.len
  omega
 constructor
 · intro hpos
   have e1 : restP L (if u + m = x.n then r else x :: r) (if u + m = x.n then 0 else u + m) = (restP L (x :: r) u).drop m.toNat := by
    by_cases he : u + m = x.n
    · rw [if_pos he, if_pos he, s2, s3 he]
    · rw [if_neg he, if_neg he, s2]
   refine ⟨?_, ?_, ?_, ?_, ?_, ?_, ?_, ?_, ?_⟩
   · rw [e1, flatP_append, ← hg1, take_split (restP L (x :: r) u) m.toNat (tgt - at_).toNat hmt, s1, List.append_assoc]
     congr 1
     show clP (txt L) _ ++ [] ++ _ = _
     rw [List.append_nil]
     congr 2
     omega
   · rw [e1, List.drop_drop, ← hg2]
     congr 1
     omega
   · rw [e1, s2]
     omega
   · rw [List.length_append, List.length_singleton]
     by_cases he : u + m = x.n
     · rw [if_pos he]
       simp only [List.length_cons] at hk
       split <;> omega
     · rw [if_neg he, if_neg (by omega)]
       omega
   · intro y hy
     rcases List.mem_append.1 hy with hy | hy
     · exact h.oy y hy
     · simp only [List.mem_singleton] at hy
       subst hy
       exact ⟨hsub.1, hpos⟩
   · intro y hy
     split at hy
     · exact h.ox y (by simp [hy])
     · exact h.ox y hy
   · split <;> omega
   · have := h.a0; omega
   · intro y s hy
     by_cases he : u + m = x.n
     · rw [if_pos he] at hy ⊢
       have := (h.ox y (by rw [hy]; simp)).n0
       omega
     · rw [if_neg he] at hy ⊢
       cases hy
       omega
 · intro hz
   have e0 : x.n = 0 ∧ u = 0 := by omega
   have e1 : restP L (x :: r) u = restP L r 0 := by
    have := s3 (by omega)
    rw [show u + m = u by omega] at this
    exact this
   rw [e1] at hg1 hg2 hc
   refine ⟨hg1, hg2, hc, ?_, h.oy, fun y hy => h.ox y (by simp [hy]), by omega, h.a0, fun y s hy => ?_⟩
   · simp only [List.length_cons] at hk
     rw [if_pos hlt]
     omega
   · have := (h.ox y (by rw [hy]; simp)).n0
     omega
theorem RdS.done {MT : Nat} {L : List Ent} {G1 G2 : List (Int × Int)} {C : Int} {K : Nat} {tgt : Int} {ys xs : List Pm} {u at_ : Int} (h : RdS MT L G1 G2 C K tgt ys xs u at_) (hd : xs = [] ∨ tgt ≤ at_) : flatP (txt L) ys = G1 ∧ restP L xs u = G2 := by
 have hg1 := h.g1
 have hg2 := h.g2
 rcases hd with rfl | hd
 · rw [restP_nil] at hg1 hg2
   simp at hg1 hg2
   exact ⟨hg1, by rw [restP_nil]; exact hg2.symm⟩
 · rw [show (tgt - at_).toNat = 0 by omega] at hg1 hg2
   simp at hg1 hg2
   exact ⟨hg1, hg2⟩
end Go.Proofs.YtgldjpldldknoaaGreatDoor
/- Plain words: the changes between a text and letters that remember it; pieces; what they lead to. No program. -/
set_option linter.unusedSimpArgs false
set_option linter.unusedVariables false
namespace Go.Proofs.YtgldjpldldknoaaGreatDoor
open Go.RowKit
def chgIf (next from_ : Int) (tx : List Int) : List PC := if next < from_ ∨ tx ≠ [] then [⟨next, from_ - next, tx⟩] else []
theorem chgIf_yes {next from_ : Int} {tx : List Int} (h : next < from_ ∨ tx ≠ []) : chgIf next from_ tx = [⟨next, from_ - next, tx⟩] := if_pos h
theorem chgIf_no {next from_ : Int} {tx : List Int} (h : ¬ (next < from_ ∨ tx ≠ [])) : chgIf next from_ tx = [] := if_neg h
def btw (len : Int) : Int → List Int → List (Int × Int) → List PC
 | next, tx, [] => chgIf next len tx
 | next, tx, c :: r => if c.2 < 0 then btw len next (tx ++ [c.1]) r else chgIf next c.2 tx ++ btw len (c.2 + 1) [] r
def btwP (len : Int) (tx_ : Int → List Int) : Int → List Int → List Pm → List PC
 | next, tx, [] => chgIf next len tx
 | next, tx, x :: r => if x.text ≠ 0 then btwP len tx_ next (tx ++ cutL (tx_ x.text) x.from_ x.n) r else chgIf next x.from_ tx ++ btwP len tx_ (x.from_ + x.n) [] r
theorem btw_ins (len next : Int) : ∀ (t tx : List Int) (r : List (Int × Int)), btw len next tx (t.map embC ++ r) = btw len next (tx ++ t) r
 | [], tx, r => by simp
 | a :: t, tx, r => by
  have ih := btw_ins len next t (tx ++ [a]) r
  rw [List.map_cons, List.cons_append, btw, if_pos (show (embC a).2 < 0 by simp [embC])]
  show btw len next (tx ++ [a]) (t.map embC ++ r) = _
  rw [ih, List.append_assoc]; rfl
theorem runC_succ (f : Int) (n : Nat) : runC f (n + 1) = (63, f) :: runC (f + 1) n := by
 unfold runC
 rw [List.range_succ_eq_map, List.map_cons, List.map_map]
 congr 1
 · simp
 · apply List.map_congr_left
   intro i _
   simp only [Function.comp]
   congr 1
   omega
theorem btw_run' (len : Int) : ∀ (n : Nat) (f : Int) (r : List (Int × Int)), 0 ≤ f → btw len f [] (runC f n ++ r) = btw len (f + n) [] r
 | 0, f, r, h => by simp [runC]
 | n + 1, f, r, h => by
  have ih := btw_run' len n (f + 1) r (by omega)
  rw [runC_succ, List.cons_append, btw, if_neg (show ¬ ((63, f) : Int × Int).2 < 0 by show ¬ f < 0; omega)]
  show chgIf f f [] ++ btw len (f + 1) [] (runC (f + 1) n ++ r) = _
  rw [ih, chgIf_no (by simp), List.nil_append]
  congr 1
  omega
theorem btw_run (len next : Int) (tx : List Int) (n : Nat) (f : Int) (r : List (Int × Int)) (h : 0 ≤ f) (hn : 0 < n) : btw len next tx (runC f n ++ r) = chgIf next f tx ++ btw len (f + n) [] r := by
 obtain ⟨m, rfl⟩ : ∃ m, n = m + 1 := ⟨n - 1, by omega⟩
 rw [runC_succ, List.cons_append, btw, if_neg (show ¬ ((63, f) : Int × Int).2 < 0 by show ¬ f < 0; omega)]
 show chgIf next f tx ++ btw len (f + 1) [] (runC (f + 1) m ++ r) = _
 rw [btw_run' len m (f + 1) r (by omega)]
 congr 2
 omega
theorem btwP_flat (MT : Nat) (L : List Ent) (len : Int) : ∀ (xs : List Pm) (next : Int) (tx : List Int), (∀ x ∈ xs, POk MT L x ∧ 0 < x.n) → btwP len (txt L) next tx xs = btw len next tx (flatP (txt L) xs)
 | [], next, tx, _ => rfl
 | x :: r, next, tx, h => by
  have hx := h x (by simp)
  have f0 := hx.1.f0
  rw [flatP_cons]
  unfold btwP clP
  by_cases h0 : x.text = 0
  · rw [if_neg (by simpa using h0), if_pos h0, btw_run len next tx _ _ _ f0 (by have := hx.2; omega), btwP_flat MT L len r _ _ (fun y hy => h y (by simp [hy]))]
    congr 2
    have := hx.2
    omega
  · rw [if_pos h0, if_neg h0, btw_ins, btwP_flat MT L len r _ _ (fun y hy => h y (by simp [hy]))]
def keptF (F : List (Int × Int)) : List Int := (F.filter fun c => decide (0 ≤ c.2)).map Prod.snd
theorem keptF_pos {c : Int × Int} {r : List (Int × Int)} (h : ¬ c.2 < 0) : keptF (c :: r) = c.2 :: keptF r := by
 unfold keptF
 rw [List.filter_cons, if_pos (by simp; omega), List.map_cons]
structure Mem (n next : Int) (F : List (Int × Int)) : Prop where
 ord : (keptF F).Pairwise (· < ·)
 rng : ∀ k ∈ keptF F, next ≤ k ∧ k < n
theorem Mem.pos {n next : Int} {c : Int × Int} {r : List (Int × Int)} (h : Mem n next (c :: r)) (hc : ¬ c.2 < 0) : next ≤ c.2 ∧ c.2 < n ∧ Mem n (c.2 + 1) r := by
 have h1 := h.ord
 have h2 := h.rng
 rw [keptF_pos hc] at h1 h2
 have h3 := List.pairwise_cons.1 h1
 refine ⟨(h2 _ (by simp)).1, (h2 _ (by simp)).2, h3.2, fun k hk => ⟨?_, (h2 k (by simp [hk])).2⟩⟩
 have := h3.1 k hk
 omega
theorem keptF_run (n : Nat) : keptF (runC 0 n) = (List.range n).map fun (i : Nat) => (i : Int) := by
 unfold keptF runC
 rw [List.filter_map, List.filter_eq_self.2, List.map_map]
 · apply List.map_congr_left
   intro i _
   simp [Function.comp]
 · intro i _
   simp only [Function.comp]
   exact decide_eq_true (by omega)
theorem Mem.run (n : Nat) : Mem n 0 (runC 0 n) := by
 constructor
 · rw [keptF_run, List.pairwise_map]
   exact List.pairwise_lt_range.imp (fun h => by omega)
 · intro k hk
   rw [keptF_run] at hk
   obtain ⟨i, hi, rfl⟩ := List.mem_map.1 hk
   have := List.mem_range.1 hi
   omega
theorem insP_memB : ∀ (ps : List PC) (c : PC), c ∈ ps → c.text.length ≤ insP ps
 | x :: r, c, h => by
  rcases List.mem_cons.1 h with rfl | h
  · simp only [insP]; omega
  · have := insP_memB r c h; simp only [insP]; omega
end Go.Proofs.YtgldjpldldknoaaGreatDoor
/- Plain words: a patch, and one that stands behind it: their composition is both. No program. -/
set_option linter.unusedSimpArgs false
set_option linter.unusedVariables false
namespace Go.Proofs.YtgldjpldldknoaaGreatDoor
open Go.RowKit
def shP (k : Int) (ps : List PC) : List PC := ps.map fun c => ⟨c.at_ + k, c.n, c.text⟩
theorem shP_len (k : Int) (ps : List PC) : (shP k ps).length = ps.length := List.length_map ..
theorem shP_ins (k : Int) : ∀ ps : List PC, insP (shP k ps) = insP ps
 | [] => rfl
 | c :: r => by
  have := shP_ins k r
  show c.text.length + insP (shP k r) = c.text.length + insP r
  omega
theorem shP_mem {k : Int} {ps : List PC} {P : PC → Prop} (h : ∀ c ∈ ps, P ⟨c.at_ + k, c.n, c.text⟩) : ∀ c ∈ shP k ps, P c := by
 intro c hc
 obtain ⟨x, hx, rfl⟩ := List.mem_map.1 hc
 exact h x hx
theorem shP_valid (T k : Int) : ∀ (ps : List PC) (last last2 : Int), validP T last ps = true → 0 ≤ k + 0 ∨ (∀ c ∈ ps, 0 ≤ c.at_ + k) → last2 ≤ last + k → validP (T + k) last2 (shP k ps) = true
 | [], _, _, _, _, _ => rfl
 | c :: r, last, last2, h, h0, hl => by
  unfold validP at h
  rw [Bool.and_eq_true] at h
  obtain ⟨t1, t2, t3, t4, t5⟩ := fitP_true h.1
  have h00 : 0 ≤ c.at_ + k := by
   rcases h0 with h0 | h0
   · omega
   · exact h0 c (by simp)
  show validP (T + k) last2 (⟨c.at_ + k, c.n, c.text⟩ :: shP k r) = true
  unfold validP
  rw [Bool.and_eq_true]
  refine ⟨decide_eq_true ⟨h00, t2, by show c.at_ + k + c.n ≤ _; omega, by show last2 < c.at_ + k; omega, t5⟩, ?_⟩
  refine shP_valid T k r (c.at_ + c.n) _ h.2 ?_ (by show c.at_ + k + c.n ≤ _; omega)
  rcases h0 with h0 | h0
  · exact .inl h0
  · exact .inr fun x hx => h0 x (by simp [hx])
theorem validP_app {T h : Int} : ∀ (ps qs : List PC) (last : Int), validP h last ps = true → validP T h qs = true → last ≤ h → h ≤ T → validP T last (ps ++ qs) = true
 | [], qs, last, _, hq, hl, _ => by
  match qs, hq with
  | [], _ => rfl
  | c :: r, hq =>
   unfold validP at hq
   rw [Bool.and_eq_true] at hq
   obtain ⟨t1, t2, t3, t4, t5⟩ := fitP_true hq.1
   show validP T last (c :: r) = true
   unfold validP
   rw [Bool.and_eq_true]
   exact ⟨decide_eq_true ⟨t1, t2, t3, by omega, t5⟩, hq.2⟩
 | c :: r, qs, last, hp, hq, hl, hT => by
  unfold validP at hp
  rw [Bool.and_eq_true] at hp
  obtain ⟨t1, t2, t3, t4, t5⟩ := fitP_true hp.1
  show validP T last (c :: (r ++ qs)) = true
  unfold validP
  rw [Bool.and_eq_true]
  exact ⟨decide_eq_true ⟨t1, t2, by omega, t4, t5⟩, validP_app r qs _ hp.2 hq t3 hT⟩
theorem validP_le {T T2 : Int} (hT : T ≤ T2) : ∀ {ps : List PC} {last : Int}, validP T last ps = true → validP T2 last ps = true
 | [], _, _ => rfl
 | c :: r, last, h => by
  unfold validP at h ⊢
  rw [Bool.and_eq_true] at h ⊢
  obtain ⟨t1, t2, t3, t4, t5⟩ := fitP_true h.1
  exact ⟨decide_eq_true ⟨t1, t2, by omega, t4, t5⟩, validP_le hT h.2⟩
theorem runC_from (n : Nat) (g : Int) (h0 : 0 ≤ g) (h1 : g ≤ n) : (runC 0 n).drop g.toNat = runC g (n - g.toNat) := by
 have := runC_sub 0 n g.toNat (n - g.toNat) (by omega)
 rw [List.take_of_length_le (by rw [List.length_drop, runC_len]; omega), show (0 : Int) + (g.toNat : Int) = g by omega] at this
 exact this
theorem runC_part (n : Nat) (g c : Int) (h0 : 0 ≤ g) (h1 : g ≤ c) (h2 : c ≤ n) : ((runC 0 n).drop g.toNat).take (c - g).toNat = runC g (c - g).toNat := by
 have := runC_sub 0 n g.toNat (c - g).toNat (by omega)
 rw [show (0 : Int) + (g.toNat : Int) = g by omega] at this
 exact this
theorem hyes {c : PC} (t2 : 0 ≤ c.n) (t5 : ¬ (c.n = 0 ∧ c.text = [])) : c.at_ < c.at_ + c.n ∨ c.text ≠ [] := by
 by_cases hn : c.n = 0
 · exact .inr fun ht => t5 ⟨hn, ht⟩
 · exact .inl (by omega)
theorem btw_patG (n : Nat) : ∀ (r : List PC) (next g : Int) (tx : List Int), validP n g r = true → 0 ≤ next → next ≤ g → g ≤ n → btw n next tx (patG embC (runC 0 n) g r) = chgIf next g tx ++ r
 | [], next, g, tx, _, h0, h1, h2 => by
  have e := runC_from n g (by omega) h2
  rw [patG, e]
  by_cases hg : g.toNat < n
  · have := btw_run n next tx (n - g.toNat) g [] (by omega) (by omega)
    rw [List.append_nil] at this
    rw [this, btw, chgIf_no (next := g + ((n - g.toNat : Nat) : Int)) (from_ := (n : Int)) (tx := []) (by rintro (h | h); omega; exact h rfl)]
  · have e2 : n - g.toNat = 0 := by omega
    have e3 : g = n := by omega
    rw [e2, show runC g 0 = [] from rfl, btw, e3, List.append_nil]
 | c :: r, next, g, tx, h, h0, h1, h2 => by
  unfold validP at h
  rw [Bool.and_eq_true] at h
  obtain ⟨t1, t2, t3, t4, t5⟩ := fitP_true h.1
  have e := runC_part n g c.at_ (by omega) (by omega) (by omega)
  have ih := btw_patG n r c.at_ (c.at_ + c.n) c.text h.2 (by omega) (by omega) t3
  rw [patG, e, btw_run n next tx _ g _ (by omega) (by omega), show g + ((c.at_ - g).toNat : Int) = c.at_ by omega, btw_ins, List.nil_append, ih, chgIf_yes (next := c.at_) (from_ := c.at_ + c.n) (tx := c.text) (hyes t2 t5), show c.at_ + c.n - c.at_ = c.n by omega]
  rfl
theorem btw_pat0 (n : Nat) (ps : List PC) (h : validP n (-1) ps = true) : btw n 0 [] (patG embC (runC 0 n) 0 ps) = ps := by
 match ps, h with
 | [], _ =>
  have := btw_run' n n 0 [] (by omega)
  rw [List.append_nil] at this
  show btw n 0 [] ((runC 0 n).drop 0) = []
  rw [List.drop_zero, this, btw, chgIf_no (by rintro (h | h); omega; exact h rfl)]
 | c :: r, h =>
  unfold validP at h
  rw [Bool.and_eq_true] at h
  obtain ⟨t1, t2, t3, t4, t5⟩ := fitP_true h.1
  have e := runC_part n 0 c.at_ (by omega) (by omega) (by omega)
  rw [Int.sub_zero] at e
  have ih := btw_patG n r c.at_ (c.at_ + c.n) c.text h.2 (by omega) (by omega) t3
  rw [patG, Int.sub_zero, e, btw_run' n _ 0 _ (by omega), show 0 + (c.at_.toNat : Int) = c.at_ by omega, btw_ins, List.nil_append, ih, chgIf_yes (next := c.at_) (from_ := c.at_ + c.n) (tx := c.text) (hyes t2 t5), show c.at_ + c.n - c.at_ = c.n by omega]
  rfl
theorem patG_shift {α : Type} (emb : Int → α) (A S : List α) (k : Nat) (hk : A.length = k) (T : Int) : ∀ (r : List PC) (g last : Int), validP T last r = true → 0 ≤ g → patG emb (A ++ S) (g + k) (shP k r) = patG emb S g r
 | [], g, last, _, h0 => by
  show (A ++ S).drop (g + k).toNat = S.drop g.toNat
  rw [show (g + (k : Int)).toNat = A.length + g.toNat by omega, List.drop_append, List.drop_of_length_le (l := A) (by omega), List.nil_append, show A.length + g.toNat - A.length = g.toNat by omega]
 | c :: r, g, last, h, h0 => by
  unfold validP at h
  rw [Bool.and_eq_true] at h
  obtain ⟨t1, t2, t3, t4, t5⟩ := fitP_true h.1
  have ih := patG_shift emb A S k hk T r (c.at_ + c.n) _ h.2 (by omega)
  show ((A ++ S).drop (g + k).toNat).take (c.at_ + k - (g + k)).toNat ++ (c.text.map emb ++ patG emb (A ++ S) (c.at_ + k + c.n) (shP k r)) = _
  rw [show c.at_ + (k : Int) + c.n = c.at_ + c.n + k by omega, ih, show (g + (k : Int)).toNat = A.length + g.toNat by omega, List.drop_append, List.drop_of_length_le (l := A) (by omega), List.nil_append, show A.length + g.toNat - A.length = g.toNat by omega, show c.at_ + (k : Int) - (g + k) = c.at_ - g by omega]
  rfl
theorem patG_from {α : Type} (emb : Int → α) (R : List α) (h : Nat) (hR : h ≤ R.length) (T : Int) (q0 : List PC) (last : Int) (hv : validP T last q0 = true) (f : Int) (h0 : 0 ≤ f) (h1 : f ≤ h) : patG emb R f (shP h q0) = (R.drop f.toNat).take (h - f).toNat ++ patG emb (R.drop h) 0 q0 := by
 have e : ∀ x : Nat, (R.drop f.toNat).take ((h - f).toNat + x) = (R.drop f.toNat).take (h - f).toNat ++ (R.drop h).take x := by
  intro x
  rw [List.take_add, List.drop_drop, show f.toNat + (h - f).toNat = h by omega]
 match q0, hv with
 | [], _ =>
  show R.drop f.toNat = _ ++ (R.drop h).drop 0
  rw [List.drop_zero]
  have := e (R.drop h).length
  rw [List.take_length, List.take_of_length_le (by rw [List.length_drop, List.length_drop]; omega)] at this
  exact this
 | c :: r, hv =>
  unfold validP at hv
  rw [Bool.and_eq_true] at hv
  obtain ⟨t1, t2, t3, t4, t5⟩ := fitP_true hv.1
  have hs := patG_shift emb (R.take h) (R.drop h) h (by rw [List.length_take]; omega) T r (c.at_ + c.n) _ hv.2 (by omega)
  rw [List.take_append_drop] at hs
  show (R.drop f.toNat).take (c.at_ + h - f).toNat ++ (c.text.map emb ++ patG emb R (c.at_ + h + c.n) (shP h r)) = _
  rw [show c.at_ + (h : Int) + c.n = c.at_ + c.n + h by omega, hs, show (c.at_ + (h : Int) - f).toNat = (h - f).toNat + c.at_.toNat by omega, e]
  simp [patG]
theorem patG_split {α : Type} (emb : Int → α) (R : List α) (h : Nat) (hR : h ≤ R.length) : ∀ (ps : List PC) (f last : Int), validP h last ps = true → 0 ≤ f → f ≤ last + 1 → f ≤ h → ∃ A, (∀ T q0 l0, validP T l0 q0 = true → patG emb R f (ps ++ shP h q0) = A ++ patG emb (R.drop h) 0 q0) ∧ ((A.length : Nat) : Int) = h - f - delP ps + insP ps
 | [], f, last, _, h0, h1, h2 => ⟨(R.drop f.toNat).take (h - f).toNat, fun T q0 l0 hq => patG_from emb R h hR T q0 l0 hq f h0 h2, by rw [List.length_take, List.length_drop]; simp only [delP, insP]; omega⟩
 | c :: r, f, last, hv, h0, h1, h2 => by
  unfold validP at hv
  rw [Bool.and_eq_true] at hv
  obtain ⟨t1, t2, t3, t4, t5⟩ := fitP_true hv.1
  obtain ⟨A, hA, hL⟩ := patG_split emb R h hR r (c.at_ + c.n) _ hv.2 (by omega) (by omega) t3
  refine ⟨(R.drop f.toNat).take (c.at_ - f).toNat ++ (c.text.map emb ++ A), fun T q0 l0 hq => ?_, ?_⟩
  · show (R.drop f.toNat).take (c.at_ - f).toNat ++ (c.text.map emb ++ patG emb R (c.at_ + c.n) (r ++ shP h q0)) = _
    rw [hA T q0 l0 hq, List.append_assoc, List.append_assoc]
  · rw [List.length_append, List.length_append, List.length_take, List.length_drop, List.length_map]
    simp only [delP, insP]
    omega
theorem patG_late (n h : Nat) (hn : h ≤ n) (T : Int) (ps q0 : List PC) (hp : validP h (-1) ps = true) (hq : validP T (-1) q0 = true) : patG embC (patG embC (runC 0 n) 0 ps) 0 (shP (h - delP ps + insP ps) q0) = patG embC (runC 0 n) 0 (ps ++ shP h q0) := by
 obtain ⟨A, hA, hL⟩ := patG_split embC (runC 0 n) h (by rw [runC_len]; exact hn) ps 0 (-1) hp (by omega) (by omega) (by omega)
 have h1 := hA T q0 (-1) hq
 have h2 := hA T [] (-1) rfl
 rw [show ps ++ shP (h : Int) [] = ps from List.append_nil _] at h2
 rw [h1, h2]
 have e : (h : Int) - delP ps + insP ps = (A.length : Int) := by omega
 rw [e]
 have h3 := patG_from embC (A ++ patG embC ((runC 0 n).drop h) 0 []) A.length (by rw [List.length_append]; omega) T q0 (-1) hq 0 (by omega) (by omega)
 rw [h3]
 simp [patG]
theorem btw_late (n h : Nat) (hn : h ≤ n) (hh : 0 < h) (ps q0 : List PC) (hp : validP ((h : Int) - 1) (-1) ps = true) (hq : validP ((n : Int) - h) (-1) q0 = true) :
    validP n (-1) (ps ++ shP h q0) = true ∧ btw n 0 [] (patG embC (patG embC (runC 0 n) 0 ps) 0 (shP (h - delP ps + insP ps) q0)) = ps ++ shP h q0 := by
 have hp2 : validP h (-1) ps = true := validP_le (by omega) hp
 have hv : validP n (-1) (ps ++ shP h q0) = true := by
  refine validP_app (h := (h : Int) - 1) ps _ (-1) hp ?_ (by omega) (by omega)
  have := shP_valid ((n : Int) - h) h q0 (-1) ((h : Int) - 1) hq (.inl (by omega)) (by omega)
  rwa [show (n : Int) - h + h = n by omega] at this
 refine ⟨hv, ?_⟩
 rw [patG_late n h hn ((n : Int) - h) ps q0 hp2 hq]
 exact btw_pat0 n _ hv
end Go.Proofs.YtgldjpldldknoaaGreatDoor
/- The walk of patch.reader.read. -/
set_option linter.unusedSimpArgs false
set_option linter.unusedVariables false
namespace Go.Proofs.YtgldjpldldknoaaGreatDoor
open Go.RowKit
structure RdM (B base lb : Nat) (w : World) (rb : Nat) (lv : Value) (xs : List Pm) (u at_ : Int) (tv : Value) (ys : List Pm) : Prop where
 rd : w.heap[rb]? = some (.cells #[lv, .int .i64 u, .int .i64 at_] 123 (0, 0))
 ls : ∃ a cap, lv = .slice a xs.length cap ∧ RG Pm.vals 3 B w a xs ∧ xs.length ≤ cap ∧ cap ≤ 9223372036854775807 ∧ (∀ ad, a = some ad → ad.block ≠ rb ∧ tv.ownBlock ≠ some ad.block ∧ ad.block < w.heap.size ∧ ad.block = lb)
 own : w.ownsRow base 90 3 tv ys.length (ys.flatMap Pm.vals)
 low : base ≤ w.heap.size
def RdF (rb : Nat) (tv : Value) (w w' : World) : Prop := Fr (fun k => k = rb ∨ tv.ownBlock = some k) w w'
def muR (xs : List Pm) (at_ tgt : Int) : Nat := 2 * xs.length + (if at_ < tgt then 1 else 0)
structure RdL (MT : Nat) (L : List Ent) (G1 G2 : List (Int × Int)) (C : Int) (K : Nat) (tgt : Int) (B base lb : Nat) (w wr : World) (rb : Nat) (tv v : Value) (ys xs : List Pm) (lv : Value) (u at_ : Int) : Prop where
 m : RdM B base lb wr rb lv xs u at_ v ys
 s : RdS MT L G1 G2 C K tgt ys xs u at_
 f : RdF rb tv w wr
 v : v.ownBlock = tv.ownBlock ∨ ∃ k, v.ownBlock = some k ∧ w.heap.size ≤ k
theorem info_piece : (Tryz.prog.info? 90).map (fun i => (i.zero, i.size, i.bytes)) = some (some (.agg #[.int .i64 0, .int .i64 0, .int .i64 0]), 3, 24) := by kernel_rfl
theorem rt_piece : RT 91 90 3 24 := by
 obtain ⟨i, h1, h2, h3, h4⟩ := info_parts info_piece
 exact ⟨by omega, i, _, Tryz.underlying91, h1, h2, h3, h4, rfl⟩
theorem step_pushH {α : Type} {vals : α → List Value} {ST T : TypeId} {size bytes : Nat} (hT : RT ST T size bytes) {w : World} {ops : Array Oper} {o : Oper} {a : Act} {K : Act → World → Prop} {Q : Exit → Act → World → Prop} {E : Prop} (hgd : o.guard = none) (s x : Operand)
    (ho : o.op = .call { callee := .builtin .append, args := #[s, x], argTypes := #[ST, ST] })
    (base : Nat) (v : Value) (xs : List α) (hs : a.eval s = v) (hown : w.ownsRow base T size v xs.length (xs.flatMap vals)) (hb : base ≤ w.heap.size) (T' : TypeId) (y : α) (cs : Array Value) (hcs : cs.toList = vals y) (hy : (vals y).length = size) (h1 : ∀ u ∈ vals y, u.oneCell' = true)
    (c H : Nat) (hH : w.heap.size = H) (hx : a.eval x = .slice (some ⟨H, 0, none⟩) 1 c) (hbytes : bytes ≤ 100) (hlen : xs.length ≤ 1000000)
    (h : ∀ g cap w', w'.ownsRow base T size (.slice (some ⟨g, 0, none⟩) (xs.length + 1) cap) (xs ++ [y]).length ((xs ++ [y]).flatMap vals) → (w.alloc (.cells cs T' (0, 0))).drew.grownBy w' v.ownBlock → (v.ownBlock = some g ∨ g = H + 1) → K (a.put o.dst (.slice (some ⟨g, 0, none⟩) (xs.length + 1) cap)) w') :
    if Region.wanted o (yielded ops a.tmps) = true then Oper.wp Tryz.prog o a (w.alloc (.cells cs T' (0, 0))).drew K Q else E := by
 subst hH
 obtain ⟨hp, i, z, hu, hi, hz, hs', hby, hzs⟩ := hT
 have hby2 : (xs.length + 1) * bytes ≤ 140737488355328 := by
  have : (xs.length + 1) * bytes ≤ 1000001 * 100 := Nat.mul_le_mul (by omega) hbytes
  omega
 refine step_append_lies _ hgd s x ST ho base T i z size bytes hu hi hz hs' hby hzs hp v xs.length _ hs ((hown.alloc _).drew) ⟨w.heap.size, 0, none⟩ 1 c (vals y) hx (by rw [hy]; omega) ?_ h1 (by omega) (by unfold maxLen; omega) hby2 (by simp; omega) (w.heap.size + 1) (by simp) ?_
 · intro j u hj
   have h := World.news_of_block (cs := cs) (t := T') (fr := (0, 0)) (heap_alloc_new w (.cells cs T' (0, 0)))
   rw [← hcs] at hj
   exact h j u hj
 · intro g cap w' q1 q2 q3 _
   exact h g cap w' (by simpa using q1) q2 q3
theorem RG.keptF {α : Type} {vals : α → List Value} {size B : Nat} {S : Nat → Prop} {w w' : World} {a : Option Addr} {xs : List α} (h : RG vals size B w a xs) (hf : Fr S w w') (hn : ∀ ad, a = some ad → ¬ S ad.block) : RG vals size B w' a xs := by
 intro i hi
 obtain ⟨b, off, h1, h2, h3, h4⟩ := h i hi
 have hb := hn _ h1
 refine ⟨b, off, h1, by have := hf.size; omega, ?_, fun j u hj => (hf.cell ⟨b, off + i * size + j, none⟩ h2 hb).trans (h4 j u hj)⟩
 rcases h3 with h3 | ⟨cs, t, fr, g1, g2⟩
 · exact .inl h3
 · exact .inr ⟨cs, t, fr, hf.kept g1 hb, g2⟩
theorem RdM.ne {B base lb : Nat} {w : World} {rb : Nat} {lv : Value} {xs : List Pm} {u at_ : Int} {tv : Value} {ys : List Pm} (h : RdM B base lb w rb lv xs u at_ tv ys) : tv.ownBlock ≠ some rb := by
 intro e
 obtain ⟨cur, hc⟩ := owns_block h.own e
 exact ne_of_types h.rd hc (by decide) rfl
theorem RdM.kept0 {B base lb : Nat} {w w' : World} {rb : Nat} {lv : Value} {xs : List Pm} {u at_ : Int} {tv : Value} {ys : List Pm} (h : RdM B base lb w rb lv xs u at_ tv ys) (hf : Fr0 w w') : RdM B base lb w' rb lv xs u at_ tv ys := by
 obtain ⟨a, cap, h1, h2, h3, h4, h5⟩ := h.ls
 have hs := Fr.size hf
 exact ⟨hf.kept h.rd, ⟨a, cap, h1, h2.kept0 hf, h3, h4, fun ad had => ⟨(h5 ad had).1, (h5 ad had).2.1, by have := (h5 ad had).2.2.1; omega, (h5 ad had).2.2.2⟩⟩, hf.owns h.own, by have := h.low; omega⟩
theorem RdM.push {B base lb : Nat} {w w' : World} {rb : Nat} {lv : Value} {xs : List Pm} {u at_ : Int} {tv : Value} {ys ys' : List Pm} {o : Obj} {g cap n : Nat} (h : RdM B base lb w rb lv xs u at_ tv ys) (ho : w'.ownsRow base 90 3 (.slice (some ⟨g, 0, none⟩) n cap) ys'.length (ys'.flatMap Pm.vals)) (hg : (w.alloc o).drew.grownBy w' tv.ownBlock) (hat : tv.ownBlock = some g ∨ g = w.heap.size + 1) :
    RdM B base lb w' rb lv xs u at_ (.slice (some ⟨g, 0, none⟩) n cap) ys' ∧ Fr (fun k => tv.ownBlock = some k) w w' := by
 have hf : Fr (fun k => tv.ownBlock = some k) w w' := Fr.grown (((Fr.refl _ w).alloc o).drew) hg (fun k hk _ => hk)
 obtain ⟨a, c, h1, h2, h3, h4, h5⟩ := h.ls
 have hs := hf.size
 refine ⟨⟨hf.kept h.rd h.ne, ⟨a, c, h1, h2.keptF hf (fun ad had => (h5 ad had).2.1), h3, h4, fun ad had => ⟨(h5 ad had).1, ?_, by have := (h5 ad had).2.2.1; omega, (h5 ad had).2.2.2⟩⟩, ho, by have := h.low; omega⟩, hf⟩
 intro e
 simp only [Value.ownBlock, Option.some.injEq] at e
 rcases hat with e' | e'
 · exact (h5 ad had).2.1 (by rw [e', e])
 · have := (h5 ad had).2.2.1; omega
theorem RdM.write {B base lb : Nat} {w w' : World} {rb : Nat} {lv lv' : Value} {xs xs' : List Pm} {u at_ u' at' : Int} {tv : Value} {ys : List Pm} (h : RdM B base lb w rb lv xs u at_ tv ys) (hf : Fr (fun k => k = rb) w w') (hrd : w'.heap[rb]? = some (.cells #[lv', .int .i64 u', .int .i64 at'] 123 (0, 0)))
    (hl : (lv' = lv ∧ xs' = xs) ∨ ∃ x b off cap a', lv = .slice (some ⟨b, off, none⟩) xs.length cap ∧ xs = x :: xs' ∧ lv' = .slice (some a') xs'.length (cap - 1) ∧ (xs' ≠ [] → a' = ⟨b, off + 3, none⟩) ∧ a'.block = b) : RdM B base lb w' rb lv' xs' u' at' tv ys := by
 obtain ⟨a, c, h1, h2, h3, h4, h5⟩ := h.ls
 have hs := hf.size
 have hne := h.ne
 have hown := hf.owns h.own (fun k hk e => by subst e; exact hne hk)
 have hlow := h.low
 refine ⟨hrd, ?_, hown, by omega⟩
 rcases hl with ⟨rfl, rfl⟩ | ⟨x, b, off, cap, a', e1, e2, e3, e4, e5⟩
 · exact ⟨a, c, h1, h2.keptF hf (fun ad had => (h5 ad had).1), h3, h4, fun ad had => ⟨(h5 ad had).1, (h5 ad had).2.1, by have := (h5 ad had).2.2.1; omega, (h5 ad had).2.2.2⟩⟩
 · rw [e1] at h1
   simp only [Value.slice.injEq] at h1
   obtain ⟨rfl, _, rfl⟩ := h1
   have hsep := h5 _ rfl
   dsimp only at hsep
   have hk := h2.keptF hf (fun ad had => (h5 ad had).1)
   refine ⟨some a', cap - 1, e3, ?_, by rw [e2] at h3; simp only [List.length_cons] at h3; omega, by omega, fun ad had => ?_⟩
   · by_cases hx : xs' = []
     · rw [hx]; exact RG.nil _ _ _ _ _
     · rw [e4 hx]
       have := hk.tail
       rw [e2] at this
       exact this
   · simp only [Option.some.injEq] at had
     subst had
     rw [e5]
     exact ⟨hsep.1, hsep.2.1, by omega, hsep.2.2.2⟩
theorem rd_keep {W : World} {rb : Nat} {lv u a : Value} {T : TypeId} (h : W.heap[rb]? = some (.cells #[lv, u, a] T (0, 0))) (X Y : Value) (n : Nat) : (((W.setCell ⟨rb, 2, none⟩ X).setCell ⟨rb, 1, none⟩ Y).drewN n).heap[rb]? = some (.cells #[lv, Y, X] T (0, 0)) ∧ Fr (fun k => k = rb) W (((W.setCell ⟨rb, 2, none⟩ X).setCell ⟨rb, 1, none⟩ Y).drewN n) :=
 ⟨setCell_block (setCell_block h 2 X) 1 Y, (((Fr.refl (fun k => k = rb) W).setCell ⟨rb, 2, none⟩ X (fun _ => rfl)).setCell ⟨rb, 1, none⟩ Y (fun _ => rfl)).drewN n⟩
theorem rd_pop {W : World} {rb : Nat} {lv u a : Value} {T : TypeId} (h : W.heap[rb]? = some (.cells #[lv, u, a] T (0, 0))) (X Y V Z : Value) (n : Nat) : (((((W.setCell ⟨rb, 2, none⟩ X).setCell ⟨rb, 1, none⟩ Y).drewN n).setCell ⟨rb, 0, none⟩ V).setCell ⟨rb, 1, none⟩ Z).heap[rb]? = some (.cells #[V, Z, X] T (0, 0)) ∧ Fr (fun k => k = rb) W ((((W.setCell ⟨rb, 2, none⟩ X).setCell ⟨rb, 1, none⟩ Y).drewN n).setCell ⟨rb, 0, none⟩ V |>.setCell ⟨rb, 1, none⟩ Z) :=
 ⟨setCell_block (setCell_block (rd_keep h X Y n).1 0 V) 1 Z, (((rd_keep h X Y n).2).setCell ⟨rb, 0, none⟩ V (fun _ => rfl)).setCell ⟨rb, 1, none⟩ Z (fun _ => rfl)⟩
theorem RdF.wrote {rb : Nat} {tv : Value} {w w1 w2 : World} (h : RdF rb tv w w1) (hf : Fr (fun k => k = rb) w1 w2) : RdF rb tv w w2 := Fr.trans h hf (fun _ e _ => .inl e)
theorem RdF.same {rb : Nat} {tv : Value} {w w1 w2 : World} (h : RdF rb tv w w1) (hf : Fr0 w1 w2) : RdF rb tv w w2 := Fr.trans h hf (fun _ e _ => e.elim)
theorem RdF.own {rb : Nat} {tv v : Value} {w w1 w2 : World} (h : RdF rb tv w w1) (hf : Fr (fun k => v.ownBlock = some k) w1 w2) (hv : v.ownBlock = tv.ownBlock ∨ ∃ k, v.ownBlock = some k ∧ w.heap.size ≤ k) : RdF rb tv w w2 :=
 Fr.trans h hf (fun i e hi => by
  rcases hv with hv | ⟨k, hk, hge⟩
  · exact .inr (by rw [← hv]; exact e)
  · rw [e] at hk
    simp only [Option.some.injEq] at hk
    omega)
def RdcPost (MT : Nat) (L : List Ent) (G1 G2 : List (Int × Int)) (C : Int) (K : Nat) (tgt : Int) (B base lb : Nat) (w : World) (rb : Nat) (tv : Value) (e : Ending) (w' : World) : Prop :=
 ∃ v ys' xs' lv' u' at', e = .returned v ∧ RdL MT L G1 G2 C K tgt B base lb w w' rb tv v ys' xs' lv' u' at' ∧ (xs' = [] ∨ tgt ≤ at')
set_option maxRecDepth 100000 in
set_option maxHeartbeats 2000000 in
theorem pat_read {MT : Nat} {L : List Ent} {G1 G2 : List (Int × Int)} {C : Int} {K : Nat} {tgt : Int} {B base lb : Nat} {w : World} {rb : Nat} {tv : Value} {ys xs : List Pm} {lv : Value} {u at_ : Int} (h : RdL MT L G1 G2 C K tgt B base lb w w rb tv tv ys xs lv u at_) (hK : K ≤ 900000) (hC : C ≤ 2305843009213693952) (ht0 : 0 ≤ tgt) (ht1 : tgt ≤ 9223372036854775807) :
    Calls Tryz.prog 50 #[.pointer (some ⟨rb, 0, none⟩), tv, .int .i64 tgt] w (RdcPost MT L G1 G2 C K tgt B base lb w rb tv) := by
 have H0 := Lib.hid h
 clear h
 go_enter Tryz.func50, Tryz.ntmps50
 go_wp2_with fail
 go_loopg [1] (2 * xs.length + 1) (fun gk v wr => ∃ ys xs lv u at_, muR xs at_ tgt ≤ gk ∧ RdL MT L G1 G2 C K tgt B base lb w wr rb tv v ys xs lv u at_)
 case atStart => exact ⟨ys, xs, lv, u, at_, by unfold muR; split <;> omega, H0.out⟩
 case round =>
  clear H0
  obtain ⟨ys, xs, lv, u, at_, hmu, hr⟩ := hrel
  obtain ⟨a, cap, rfl, hrg, hcap1, hcap2, hsep⟩ := hr.m.ls
  obtain ⟨r0, r1, r2, hfz, lrb⟩ := cells3 hr.m.rd
  by_cases hdone : xs = [] ∨ tgt ≤ at_
  · have HX : Hid (RdcPost MT L G1 G2 C K tgt B base lb w rb tv (.returned u1) wr) := ⟨u1, ys, xs, _, u, at_, rfl, hr, hdone⟩
    clear hr hrg hsep
    cases xs with
    | nil =>
     clear hdone
     go_wp2_with fail
     go_ret
     exact HX.out
    | cons x r =>
     have hge : ¬ at_ < tgt := by
      rcases hdone with h | h
      · cases h
      · omega
     clear hdone
     go_wp2_with fail
     go_ret
     exact HX.out
  · have hx : ∃ x r, xs = x :: r := by
      cases xs with
      | nil => exact absurd (.inl rfl) hdone
      | cons x r => exact ⟨x, r, rfl⟩
    obtain ⟨x, r, rfl⟩ := hx
    have hlt : at_ < tgt := by
     rcases Int.lt_or_le at_ tgt with h | h
     · exact h
     · exact absurd (.inr h) hdone
    clear hdone
    obtain ⟨b, off, rfl, lbb, _, hc⟩ := hrg 0 (by simp)
    have c0 := hc 0 _ rfl
    have c1 := hc 1 _ rfl
    have c2 := hc 2 _ rfl
    simp only [List.getElem_cons_zero, Nat.zero_mul, Nat.add_zero] at c0 c1 c2
    obtain ⟨sep1, sep2, sep3, sep4⟩ := hsep _ rfl
    clear sep4
    dsimp only at sep1 sep2 sep3
    have hu := hr.s.u0
    have ha := hr.s.a0
    have hxo := hr.s.ox x (by simp)
    have hxn := hxo.n0
    have hxf := hxo.f0
    have hxu := hxo.up
    have hux := hr.s.ux x r rfl
    have hul : u ≤ x.n := by omega
    have hat : at_ ≤ C := by have := hr.s.c; omega
    have HR := Lib.hid hr
    clear hc hr hrg hsep hxo
    go_wp2_with fail
    have a1 := IntWalk.i64_in (x.n - u) (by omega)
    have a2 := IntWalk.i64_in (tgt - at_) (by omega)
    go_quiet (fail)
    clear a1 a2
    obtain ⟨m, hm⟩ : ∃ m, min (x.n - u) (tgt - at_) = m := ⟨_, rfl⟩
    first
    | rw [hm]
    | rw [show (if tgt - at_ < x.n - u then tgt - at_ else x.n - u) = m by rw [← hm]; split <;> omega]
    have hm0 : 0 ≤ m := by omega
    have hml : u + m ≤ x.n := by omega
    have hmt : at_ + m ≤ tgt := by omega
    have hmc : m ≤ 1152921504606846976 := by omega
    have HM := Lib.hid hm
    clear hm
    have hW := (Fr0.refl wr).alloc (.cells #[.int .i64 x.text, .int .i64 x.from_, .int .i64 x.n] 90 (0, 0))
    have hWF := alloc_at wr (.cells #[.int .i64 x.text, .int .i64 x.from_, .int .i64 x.n] 90 (0, 0)) _ rfl
    have hW2 : Fr0 wr ((wr.alloc (.cells #[.int .i64 x.text, .int .i64 x.from_, .int .i64 x.n] 90 (0, 0))).drewN nq) := hW.drewN nq
    have hWF2 : ((wr.alloc (.cells #[.int .i64 x.text, .int .i64 x.from_, .int .i64 x.n] 90 (0, 0))).drewN nq).heap[wr.heap.size]? = some (.cells #[.int .i64 x.text, .int .i64 x.from_, .int .i64 x.n] 90 (0, 0)) := hWF
    clear hW hWF
    generalize (wr.alloc (.cells #[.int .i64 x.text, .int .i64 x.from_, .int .i64 x.n] 90 (0, 0))).drewN nq = W at *
    obtain ⟨F, hF⟩ : ∃ F, F = wr.heap.size := ⟨_, rfl⟩
    rw [← hF] at hWF2 ⊢
    have hMW := HR.out.m.kept0 hW2
    clear r0 r1 r2 hfz c0 c1 c2
    obtain ⟨r0, r1, r2, hfz, lrW⟩ := cells3 hMW.rd
    obtain ⟨e0, e1, e2, _, lF⟩ := cells3 hWF2
    have hFr : F ≠ rb := by omega
    have hFv : some F ≠ u1.ownBlock := fun h => by have := (HR.out.m.own.lt F h.symm).2; omega
    have hRv : some rb ≠ u1.ownBlock := fun h => HR.out.m.ne h.symm
    have HMW := Lib.hid hMW
    have HW2 := Lib.hid hW2
    clear hMW hW2 lrb lbb
    have HF := Lib.hid hF
    have hrl : (r.length : Int) + 1 ≤ 1000000 := by have := HR.out.s.k; simp only [List.length_cons] at this; omega
    have hyl : ys.length ≤ 1000000 := by have := HR.out.s.k; simp only [List.length_cons] at this; omega
    have HMU := Lib.hid hmu
    simp only [List.length_cons] at hcap1
    clear hF hmu
    by_cases hmz : m = 0
    · have hxz : x.n = 0 ∧ u = 0 := by have := HM.out; omega
      have HS : Hid (RdS MT L G1 G2 C K tgt ys r 0 (at_ + m)) := by
       have h1 := (HR.out.s.next hlt HM.out.symm).2 hmz
       rw [hmz, Int.add_zero]
       exact h1
      have q1 : decide (0 < m) = false := decide_eq_false (by omega)
      have q2 : (u + m == x.n) = true := by rw [beq_iff_eq]; omega
      have HMS : Hid (muR r (at_ + m) tgt < muR (x :: r) at_ tgt) := by show _ < _; unfold muR; simp only [List.length_cons]; rw [if_pos hlt]; split <;> omega
      clear hmz hxz
      by_cases hcp : cap = 1
      · have hrz : r.length = 0 := by omega
        obtain rfl : r = [] := List.eq_nil_of_length_eq_zero hrz
        subst hcp
        clear hrz
        go_wp2_with fail
        go_quiet (fail)
        go_wp2_with fail
        obtain ⟨k1, k2⟩ := rd_pop HMW.out.rd (.int .i64 (at_ + m)) (.int .i64 (u + m)) (.slice (some ⟨b, off, none⟩) 0 0) (.int .i64 0) nq
        have hX := HMW.out.write (xs' := []) (u' := 0) (at' := at_ + m) k2 k1 (.inr ⟨x, b, off, 1, ⟨b, off, none⟩, rfl, rfl, rfl, fun h => absurd rfl h, rfl⟩)
        go_roundg (muR [] (at_ + m) tgt)
        case measure => have h1 := HMS.out; have h2 := HMU.out; omega
        case rel => exact ⟨ys, [], _, 0, at_ + m, Nat.le_refl _, ⟨hX, HS.out, (HR.out.f.same HW2.out).wrote k2, HR.out.v⟩⟩
      · have hc1 : 1 ≤ cap := by omega
        go_wp2_with fail
        go_quiet (fail)
        go_wp2_with fail
        obtain ⟨k1, k2⟩ := rd_pop HMW.out.rd (.int .i64 (at_ + m)) (.int .i64 (u + m)) (.slice (some ⟨b, off + 3, none⟩) r.length (cap - 1)) (.int .i64 0) nq
        have hX := HMW.out.write (xs' := r) (u' := 0) (at' := at_ + m) k2 k1 (.inr ⟨x, b, off, cap, ⟨b, off + 3, none⟩, rfl, rfl, rfl, fun _ => rfl, rfl⟩)
        go_roundg (muR r (at_ + m) tgt)
        case measure => have h1 := HMS.out; have h2 := HMU.out; omega
        case rel => exact ⟨ys, r, _, 0, at_ + m, Nat.le_refl _, ⟨hX, HS.out, (HR.out.f.same HW2.out).wrote k2, HR.out.v⟩⟩
    · have hmp : 0 < m := by omega
      have HS := Lib.hid ((HR.out.s.next hlt HM.out.symm).1 hmp)
      have HMIN : Hid (u + m ≠ x.n → at_ + m = tgt) := by have := HM.out; intro hne; omega
      clear hmz
      have hoW := HMW.out.own
      have hbW := HMW.out.low
      have a1 := IntWalk.i64_in (x.from_ + u) (by omega)
      go_wp2_with fail
      go_region_held3 (fun w' => w'.cell? ⟨rb, 1, none⟩ = some (.int .i64 u) ∧ w'.cell? ⟨F, 0, none⟩ = some (.int .i64 x.text) ∧ w'.cell? ⟨F, 1, none⟩ = some (.int .i64 x.from_))
       (first
        | (go_keep; done)
        | (go_split_ands
           refine ⟨?_, ?_, ?_⟩
           · (rw [hg4.cell_far _ (by simp; omega) hRv]; assumption)
           · (rw [hg4.cell_far _ (by simp; omega) hFv]; assumption)
           · (rw [hg4.cell_far _ (by simp; omega) hFv]; assumption)))
       ((refine step_pushH (vals := Pm.vals) rt_piece (by rfl) _ _ (by rfl) base _ ys (by rfl) hoW hbW 90 ⟨x.text, x.from_ + u, m⟩ #[.int .i64 x.text, .int .i64 (x.from_ + u), .int .i64 m] (by rfl) (by rfl) (by simp [Pm.vals, Value.oneCell']) 1 W.heap.size (by rfl) (by rfl) (by omega) hyl ?_; intro g gcap w4 hO4 hg4 hat4))
      obtain ⟨hM4, hF4⟩ := HMW.out.push (ys' := ys ++ [⟨x.text, x.from_ + u, m⟩]) hO4 hg4 hat4
      have hWF4 := hF4.kept hWF2 (fun e => hFv e.symm)
      have HM4 := Lib.hid hM4
      have HF4 := Lib.hid ((HR.out.f.same HW2.out).own hF4 HR.out.v)
      have HV4 : Hid ((Value.slice (some ⟨g, 0, none⟩) (ys.length + 1) gcap).ownBlock = tv.ownBlock ∨ ∃ k, (Value.slice (some ⟨g, 0, none⟩) (ys.length + 1) gcap).ownBlock = some k ∧ w.heap.size ≤ k) := by
       have h1 := HR.out.f.size
       have h2 := Fr.size HW2.out
       rcases hat4 with e | e
       · rcases HR.out.v with hv | ⟨k, hk, hge⟩
         · left
           rw [← hv, e]; rfl
         · right
           rw [hk] at e
           simp only [Option.some.injEq] at e
           exact ⟨g, rfl, by omega⟩
       · right
         exact ⟨g, rfl, by omega⟩
      clear a1 r0 r1 r2 e0 e1 e2 hfz hO4 hg4 hat4 hF4 hoW hbW hWF2
      obtain ⟨r0, r1, r2, hfz, lr4⟩ := cells3 hM4.rd
      obtain ⟨e0, e1, e2, _, lF4⟩ := cells3 hWF4
      clear hM4 hWF4
      by_cases hpop : u + m = x.n
      · have q2 : (u + m == x.n) = true := by rw [beq_iff_eq]; omega
        have HS2 : Hid (RdS MT L G1 G2 C K tgt (ys ++ [⟨x.text, x.from_ + u, m⟩]) r 0 (at_ + m)) := by have := HS.out; rw [if_pos hpop, if_pos hpop] at this; exact this
        have HMS : Hid (muR r (at_ + m) tgt < muR (x :: r) at_ tgt) := by show _ < _; unfold muR; simp only [List.length_cons]; rw [if_pos hlt]; split <;> omega
        clear hpop HS HMIN
        by_cases hcp : cap = 1
        · have hrz : r.length = 0 := by omega
          obtain rfl : r = [] := List.eq_nil_of_length_eq_zero hrz
          subst hcp
          clear hrz
          go_wp2_with fail
          go_quiet (fail)
          go_wp2_with fail
          obtain ⟨k1, k2⟩ := rd_pop HM4.out.rd (.int .i64 (at_ + m)) (.int .i64 (u + m)) (.slice (some ⟨b, off, none⟩) 0 0) (.int .i64 0) nq
          have hX := HM4.out.write (xs' := []) (u' := 0) (at' := at_ + m) k2 k1 (.inr ⟨x, b, off, 1, ⟨b, off, none⟩, rfl, rfl, rfl, fun h => absurd rfl h, rfl⟩)
          go_roundg (muR [] (at_ + m) tgt)
          case measure => have h1 := HMS.out; have h2 := HMU.out; omega
          case rel => exact ⟨_, [], _, 0, at_ + m, Nat.le_refl _, ⟨hX, HS2.out, HF4.out.wrote k2, HV4.out⟩⟩
        · have hc1 : 1 ≤ cap := by omega
          go_wp2_with fail
          go_quiet (fail)
          go_wp2_with fail
          obtain ⟨k1, k2⟩ := rd_pop HM4.out.rd (.int .i64 (at_ + m)) (.int .i64 (u + m)) (.slice (some ⟨b, off + 3, none⟩) r.length (cap - 1)) (.int .i64 0) nq
          have hX := HM4.out.write (xs' := r) (u' := 0) (at' := at_ + m) k2 k1 (.inr ⟨x, b, off, cap, ⟨b, off + 3, none⟩, rfl, rfl, rfl, fun _ => rfl, rfl⟩)
          go_roundg (muR r (at_ + m) tgt)
          case measure => have h1 := HMS.out; have h2 := HMU.out; omega
          case rel => exact ⟨_, r, _, 0, at_ + m, Nat.le_refl _, ⟨hX, HS2.out, HF4.out.wrote k2, HV4.out⟩⟩
      · have q2 : (u + m == x.n) = false := by rw [beq_eq_false_iff_ne]; exact hpop
        have HS2 : Hid (RdS MT L G1 G2 C K tgt (ys ++ [⟨x.text, x.from_ + u, m⟩]) (x :: r) (u + m) (at_ + m)) := by have := HS.out; rw [if_neg hpop, if_neg hpop] at this; exact this
        have HMS : Hid (muR (x :: r) (at_ + m) tgt < muR (x :: r) at_ tgt) := by have h3 := HMIN.out hpop; show _ < _; unfold muR; rw [if_pos hlt, if_neg (by omega)]; omega
        clear hpop HS HMIN
        go_wp2_with fail
        go_quiet (fail)
        go_wp2_with fail
        obtain ⟨k1, k2⟩ := rd_keep HM4.out.rd (.int .i64 (at_ + m)) (.int .i64 (u + m)) nq
        have hX := HM4.out.write (xs' := x :: r) (u' := u + m) (at' := at_ + m) k2 k1 (.inl ⟨rfl, rfl⟩)
        go_roundg (muR (x :: r) (at_ + m) tgt)
        case measure => have h1 := HMS.out; have h2 := HMU.out; omega
        case rel => exact ⟨_, x :: r, _, u + m, at_ + m, Nat.le_refl _, ⟨hX, HS2.out, HF4.out.wrote k2, HV4.out⟩⟩
end Go.Proofs.YtgldjpldldknoaaGreatDoor
/- The walk of patch.replace. -/
set_option linter.unusedSimpArgs false
set_option linter.unusedVariables false
namespace Go.Proofs.YtgldjpldldknoaaGreatDoor
open Go.RowKit
structure RpL (MT : Nat) (L : List Ent) (B lb : Nat) (w wr : World) (rb : Nat) (T : List (Int × Int)) (ps : List PC) (N : Nat) (k : Nat) (v : Value) (ys xs : List Pm) (lv : Value) (u at_ : Int) : Prop where
 m : RdM B w.heap.size lb wr rb lv xs u at_ v ys
 fr : Fr0 w wr
 fin : flatP (txt L) ys ++ patG embC T at_ (ps.drop k) = patG embC T 0 ps
 rest : restP L xs u = T.drop at_.toNat
 form : ∃ last, validP T.length last (ps.drop k) = true ∧ at_ ≤ last + 1 ∧ at_ ≤ T.length
 cnt : ys.length + xs.length ≤ N + 3 * k
 oy : ∀ y ∈ ys, POk MT L y ∧ 0 < y.n
 ox : ∀ x ∈ xs, POk MT L x
 u0 : 0 ≤ u
 a0 : 0 ≤ at_
 ux : ∀ x r, xs = x :: r → u < x.n ∨ (u = 0 ∧ x.n = 0)
 rbn : w.heap.size ≤ rb
 lbn : lb < w.heap.size
theorem RpL.start {MT : Nat} {L : List Ent} {B lb : Nat} {w wr : World} {rb : Nat} {T : List (Int × Int)} {ps : List PC} {N k : Nat} {v : Value} {ys xs : List Pm} {lv : Value} {u at_ : Int} (h : RpL MT L B lb w wr rb T ps N k v ys xs lv u at_) (tgt : Int) (h1 : at_ ≤ tgt) :
    RdL MT L (flatP (txt L) ys ++ (T.drop at_.toNat).take (tgt - at_).toNat) (T.drop tgt.toNat) T.length (N + 3 * k + 1) tgt B w.heap.size lb wr wr rb v v ys xs lv u at_ := by
 obtain ⟨last, hv, h2, h3⟩ := h.form
 have a0 := h.a0
 refine ⟨h.m, ⟨by rw [h.rest], ?_, ?_, ?_, h.oy, h.ox, h.u0, h.a0, h.ux⟩, Fr.refl _ _, .inl rfl⟩
 · rw [h.rest, List.drop_drop]; congr 1; omega
 · rw [h.rest, List.length_drop]; omega
 · have := h.cnt
   split <;> omega
theorem RdL.at_end {MT : Nat} {L : List Ent} {G1 : List (Int × Int)} {T : List (Int × Int)} {K : Nat} {tgt : Int} {B base lb : Nat} {w wr : World} {rb : Nat} {tv v : Value} {ys xs : List Pm} {lv : Value} {u at_ : Int} (h : RdL MT L G1 (T.drop tgt.toNat) T.length K tgt B base lb w wr rb tv v ys xs lv u at_) (hd : xs = [] ∨ tgt ≤ at_) (h0 : 0 ≤ tgt) (h1 : tgt ≤ T.length) : flatP (txt L) ys = G1 ∧ restP L xs u = T.drop tgt.toNat ∧ at_ = tgt := by
 obtain ⟨e1, e2⟩ := h.s.done hd
 refine ⟨e1, e2, ?_⟩
 have hc := h.s.c
 rw [e2, List.length_drop] at hc
 omega
structure RpM (MT : Nat) (L : List Ent) (B lb : Nat) (w wr : World) (rb : Nat) (T : List (Int × Int)) (N : Nat) (G : List (Int × Int)) (v : Value) (ys xs : List Pm) (lv : Value) (u at_ : Int) : Prop where
 m : RdM B w.heap.size lb wr rb lv xs u at_ v ys
 fr : Fr0 w wr
 flat : flatP (txt L) ys = G
 rest : restP L xs u = T.drop at_.toNat
 up : at_ ≤ T.length
 cnt : ys.length + xs.length ≤ N
 oy : ∀ y ∈ ys, POk MT L y ∧ 0 < y.n
 ox : ∀ x ∈ xs, POk MT L x
 u0 : 0 ≤ u
 a0 : 0 ≤ at_
 ux : ∀ x r, xs = x :: r → u < x.n ∨ (u = 0 ∧ x.n = 0)
 rbn : w.heap.size ≤ rb
 lbn : lb < w.heap.size
theorem own_ge {w : World} {base : Nat} {e : TypeId} {size n : Nat} {v : Value} {xs : List Value} (h : w.ownsRow base e size v n xs) {k : Nat} (hk : v.ownBlock = some k) : base ≤ k := (h.lt k hk).1
theorem RpL.read {MT : Nat} {L : List Ent} {B lb : Nat} {w wr w' : World} {rb : Nat} {T : List (Int × Int)} {ps : List PC} {N k : Nat} {v : Value} {ys xs : List Pm} {lv : Value} {u at_ : Int} (h : RpL MT L B lb w wr rb T ps N k v ys xs lv u at_) (wx : World) (hx : Fr0 wr wx) {tgt : Int} {v' : Value} {ys' xs' : List Pm} {lv' : Value} {u' at' : Int}
    (hl : RdL MT L (flatP (txt L) ys ++ (T.drop at_.toNat).take (tgt - at_).toNat) (T.drop tgt.toNat) T.length (N + 3 * k + 1) tgt B w.heap.size lb wx w' rb v v' ys' xs' lv' u' at') (hd : xs' = [] ∨ tgt ≤ at') (h0 : 0 ≤ tgt) (h1 : tgt ≤ T.length) :
    RpM MT L B lb w w' rb T (N + 3 * k + 1) (flatP (txt L) ys ++ (T.drop at_.toNat).take (tgt - at_).toNat) v' ys' xs' lv' u' tgt := by
 obtain ⟨e1, e2, e3⟩ := hl.at_end hd h0 h1
 subst e3
 have hk := hl.s.k
 exact ⟨hl.m, Fr.trans (h.fr.trans hx) hl.f (fun i e hi => by
  rcases e with e | e
  · have := h.rbn; omega
  · have := own_ge h.m.own e; omega), e1, e2, h1, by split at hk <;> omega, hl.s.oy, hl.s.ox, hl.s.u0, hl.s.a0, hl.s.ux, h.rbn, h.lbn⟩
theorem RpM.start {MT : Nat} {L : List Ent} {B lb : Nat} {w wr : World} {rb : Nat} {T : List (Int × Int)} {N : Nat} {G : List (Int × Int)} {v : Value} {ys xs : List Pm} {lv : Value} {u at_ : Int} (h : RpM MT L B lb w wr rb T N G v ys xs lv u at_) (tgt : Int) (h1 : at_ ≤ tgt) :
    RdL MT L ((T.drop at_.toNat).take (tgt - at_).toNat) (T.drop tgt.toNat) T.length (xs.length + 1) tgt B w.heap.size lb wr wr rb (.slice none 0 0) (.slice none 0 0) [] xs lv u at_ := by
 have a0 := h.a0
 have h3 := h.up
 obtain ⟨a, cap, q1, q2, q3, q4, q5⟩ := h.m.ls
 refine ⟨⟨h.m.rd, ⟨a, cap, q1, q2, q3, q4, fun ad had => ⟨(q5 ad had).1, (by intro e; cases e), (q5 ad had).2.2⟩⟩, World.ownsRow_nil _ _ _ _, h.m.low⟩, ⟨by rw [h.rest]; rfl, ?_, ?_, ?_, by simp, h.ox, h.u0, h.a0, h.ux⟩, Fr.refl _ _, .inl rfl⟩
 · rw [h.rest, List.drop_drop]; congr 1; omega
 · rw [h.rest, List.length_drop]; omega
 · simp only [List.length_nil]
   split <;> omega
theorem RpM.skip {MT : Nat} {L : List Ent} {B lb : Nat} {w wr w' : World} {rb : Nat} {T : List (Int × Int)} {N : Nat} {G : List (Int × Int)} {v : Value} {ys xs : List Pm} {lv : Value} {u at_ : Int} (h : RpM MT L B lb w wr rb T N G v ys xs lv u at_) {tgt : Int} {v' : Value} {ys' xs' : List Pm} {lv' : Value} {u' at' : Int}
    (hl : RdL MT L ((T.drop at_.toNat).take (tgt - at_).toNat) (T.drop tgt.toNat) T.length (xs.length + 1) tgt B w.heap.size lb wr w' rb (.slice none 0 0) v' ys' xs' lv' u' at') (hd : xs' = [] ∨ tgt ≤ at') (h0 : 0 ≤ tgt) (h1 : tgt ≤ T.length) :
    RpM MT L B lb w w' rb T (N + 1) G v ys xs' lv' u' tgt := by
 obtain ⟨e1, e2, e3⟩ := hl.at_end hd h0 h1
 subst e3
 have hk := hl.s.k
 have hcnt := h.cnt
 have hF : Fr (fun k => k = rb) wr w' := Fr.mono hl.f (fun i e _ => by
  rcases e with e | e
  · exact e
  · cases e)
 have hne := h.m.ne
 obtain ⟨a, cap, q1, q2, q3, q4, q5⟩ := hl.m.ls
 obtain ⟨a2, cap2, p1, p2, p3, p4, p5⟩ := h.m.ls
 refine ⟨⟨hl.m.rd, ⟨a, cap, q1, q2, q3, q4, fun ad had => ⟨(q5 ad had).1, ?_, (q5 ad had).2.2⟩⟩, hF.owns h.m.own (fun j hj e => hne (by rw [hj, e])), hl.m.low⟩, Fr.trans h.fr hF (fun i e hi => by have := h.rbn; omega), h.flat, e2, h1, by split at hk <;> omega, h.oy, hl.s.ox, hl.s.u0, hl.s.a0, hl.s.ux, h.rbn, h.lbn⟩
 intro e
 have h2 := own_ge h.m.own e
 have h3 := (q5 ad had).2.2.2
 have := h.lbn
 omega
theorem piece_ok {MT : Nat} {L : List Ent} (hD : DOk L) (hO : SOk L) {id : Int} {t : List Int} {d : Int} (hb : BalZ L id t d) (hM : t.length ≤ MT) (hpos : 0 < t.length) : POk MT L ⟨id, 0, t.length⟩ ∧ (0 : Int) < (⟨id, 0, t.length⟩ : Pm).n ∧ flatP (txt L) [⟨id, 0, t.length⟩] = t.map embC := by
 have hlen := hb.len hD hO
 have hle := (hO.at id hb.known).1.len1
 have hne : id ≠ 0 := fun e => by
  have := (hb.nil_iff hD hO).1 e
  rw [this] at hpos
  simp at hpos
 refine ⟨⟨by show (0 : Int) ≤ 0; omega, by show (0 : Int) ≤ t.length; omega, by show 0 + (t.length : Int) ≤ _; omega, fun _ => ⟨t, d, hb, by show 0 + (t.length : Int) ≤ _; omega, hM⟩⟩, by show (0 : Int) < t.length; omega, ?_⟩
 show clP (txt L) ⟨id, 0, t.length⟩ ++ [] = _
 unfold clP
 rw [if_neg hne, List.append_nil]
 show (cutL (txt L id) 0 t.length).map embC = _
 rw [hb.text, cut_all rfl rfl]
theorem RpM.next {MT : Nat} {L : List Ent} {B lb : Nat} {w w0 wr : World} {rb : Nat} {T : List (Int × Int)} {ps : List PC} {N k : Nat} {v v0 : Value} {ys ys0 xs xs0 : List Pm} {lv lv0 : Value} {u u0 at_ tgt : Int} (h0 : RpL MT L B lb w w0 rb T ps N k v0 ys0 xs0 lv0 u0 at_) (hk : k < ps.length)
    (h : RpM MT L B lb w wr rb T (N + 3 * k + 3) (flatP (txt L) ys0 ++ (T.drop at_.toNat).take (ps[k].at_ - at_).toNat ++ ps[k].text.map embC) v ys xs lv u tgt) (ht : tgt = ps[k].at_ + ps[k].n) : RpL MT L B lb w wr rb T ps N (k + 1) v ys xs lv u tgt := by
 subst ht
 obtain ⟨last, hv, h2, h3⟩ := h0.form
 have hvd := validP_drop hk hv
 rw [Bool.and_eq_true] at hvd
 have hf := h0.fin
 rw [List.drop_eq_getElem_cons hk, patG] at hf
 refine ⟨h.m, h.fr, ?_, h.rest, ⟨_, hvd.2, by omega, h.up⟩, by have := h.cnt; omega, h.oy, h.ox, h.u0, h.a0, h.ux, h.rbn, h.lbn⟩
 rw [h.flat, ← hf]
 simp only [List.append_assoc]
theorem RpL.kept0 {MT : Nat} {L : List Ent} {B lb : Nat} {w wr w' : World} {rb : Nat} {T : List (Int × Int)} {ps : List PC} {N k : Nat} {v : Value} {ys xs : List Pm} {lv : Value} {u at_ : Int} (h : RpL MT L B lb w wr rb T ps N k v ys xs lv u at_) (hf : Fr0 wr w') : RpL MT L B lb w w' rb T ps N k v ys xs lv u at_ :=
 ⟨h.m.kept0 hf, h.fr.trans hf, h.fin, h.rest, h.form, h.cnt, h.oy, h.ox, h.u0, h.a0, h.ux, h.rbn, h.lbn⟩
theorem RpM.more {MT : Nat} {L : List Ent} {B lb : Nat} {w wr : World} {rb : Nat} {T : List (Int × Int)} {N M : Nat} {G G' : List (Int × Int)} {v : Value} {ys xs : List Pm} {lv : Value} {u at_ : Int} (h : RpM MT L B lb w wr rb T N G v ys xs lv u at_) (hN : N ≤ M) (hG : G = G') : RpM MT L B lb w wr rb T M G' v ys xs lv u at_ := by
 subst hG
 exact ⟨h.m, h.fr, h.flat, h.rest, h.up, by have := h.cnt; omega, h.oy, h.ox, h.u0, h.a0, h.ux, h.rbn, h.lbn⟩
theorem RpM.push {MT : Nat} {L : List Ent} {B lb : Nat} {w wr w' : World} {rb : Nat} {T : List (Int × Int)} {N : Nat} {G : List (Int × Int)} {v v' : Value} {ys xs : List Pm} {lv : Value} {u at_ : Int} {y : Pm} {o : Obj} (h : RpM MT L B lb w wr rb T N G v ys xs lv u at_)
    (h1 : w'.ownsRow w.heap.size 90 3 v' (ys ++ [y]).length ((ys ++ [y]).flatMap Pm.vals)) (hg : (wr.alloc o).grownBy w' v.ownBlock) (hy : POk MT L y ∧ 0 < y.n) : RpM MT L B lb w w' rb T (N + 1) (G ++ flatP (txt L) [y]) v' (ys ++ [y]) xs lv u at_ := by
 have hF : Fr (fun k => v.ownBlock = some k) wr w' := Fr.grown ((Fr.refl _ wr).alloc o) hg (fun k hk _ => hk)
 have hs := hF.size
 obtain ⟨a, c, q1, q2, q3, q4, q5⟩ := h.m.ls
 have hlb := h.lbn
 refine ⟨⟨hF.kept h.m.rd h.m.ne, ⟨a, c, q1, q2.keptF hF (fun ad had => (q5 ad had).2.1), q3, q4, fun ad had => ⟨(q5 ad had).1, fun e => ?_, by have := (q5 ad had).2.2.1; omega, (q5 ad had).2.2.2⟩⟩, h1, by have := h.m.low; omega⟩, Fr.trans h.fr hF (fun i e hi => by have := own_ge h.m.own e; omega), by rw [flatP_append, h.flat], h.rest, h.up, by rw [List.length_append]; have := h.cnt; simp only [List.length_cons, List.length_nil]; omega, ?_, h.ox, h.u0, h.a0, h.ux, h.rbn, h.lbn⟩
 · have := own_ge h1 e
   have := (q5 ad had).2.2.2
   omega
 · intro z hz
   rcases List.mem_append.1 hz with hz | hz
   · exact h.oy z hz
   · simp only [List.mem_singleton] at hz
     subst hz
     exact hy
def RpPost (MT : Nat) (L : List Ent) (w : World) (G : List (Int × Int)) (N : Nat) (e : Ending) (w' : World) : Prop :=
 ∃ v ys, e = .returned (.tuple #[v, .nilIface]) ∧ Fr0 w w' ∧ w'.ownsRow w.heap.size 90 3 v ys.length (ys.flatMap Pm.vals) ∧ flatP (txt L) ys = G ∧ (∀ y ∈ ys, POk MT L y ∧ 0 < y.n) ∧ ys.length ≤ N
theorem RdF.cells {rb : Nat} {tv : Value} {w w' : World} (h : RdF rb tv w w') {b : Nat} {o : Obj} (hb : w.heap[b]? = some o) (h1 : b ≠ rb) (h2 : tv.ownBlock ≠ some b) : w'.heap[b]? = some o := Fr.kept h hb (fun e => by
 rcases e with e | e
 · exact h1 e
 · exact h2 e)
set_option maxRecDepth 100000 in
set_option maxHeartbeats 4000000 in
theorem pat_replace {B : Nat} {w : World} {p mb : Nat} {most : Int} {MT : Nat} {L : List Ent} (hS : Sto B w p mb most L) (hO : SOk L) (hD : DOk L) {xs : List Pm} {a : Option Addr} {cap : Nat} (hX : RG Pm.vals 3 B w a xs) (hal : ∀ ad, a = some ad → ad.block < w.heap.size) (hox : ∀ x ∈ xs, POk MT L x) (hc : xs.length ≤ cap) (hc2 : cap ≤ 9223372036854775807)
    {T : List (Int × Int)} (hT : flatP (txt L) xs = T) (hTl : (T.length : Int) ≤ 1152921504606846976) {cs : List Chg} {ps : List PC} {pa : Option Addr} {pcap : Nat} (hC : RG Chg.vals 3 B w pa cs) (hP : PChg L cs ps) (hv : validP T.length (-1) ps = true) (hN : xs.length + 3 * ps.length + 10 ≤ 800000) (hMT : ∀ c ∈ ps, c.text.length ≤ MT) :
    Calls Tryz.prog 31 #[.pointer (some ⟨p, 0, none⟩), .slice a xs.length cap, .slice pa cs.length pcap] w (RpPost MT L w (patG embC T 0 ps) (xs.length + 3 * ps.length + 1)) := by
 obtain ⟨lb, hlb1, hlb2⟩ : ∃ lb, lb < w.heap.size ∧ ∀ ad, a = some ad → ad.block = lb := by
  cases a with
  | none =>
   obtain ⟨sv, hS', _⟩ := hS
   exact ⟨p, lt_of_block hS'.ptr, fun ad h => by cases h⟩
  | some ad => exact ⟨ad.block, hal _ rfl, fun ad' h => by cases h; rfl⟩
 have H0 : Hid (∀ W, Fr0 w W → W.heap[w.heap.size]? = some (.cells #[.slice a xs.length cap, .int .i64 0, .int .i64 0] 123 (0, 0)) → RpL MT L B lb w W w.heap.size T ps xs.length 0 (.slice none 0 0) [] xs (.slice a xs.length cap) 0 0) := by
  intro W hW hrd
  have hs := Fr.size hW
  exact ⟨⟨hrd, ⟨a, cap, rfl, hX.kept0 hW, hc, hc2, fun ad had => ⟨by have := hlb2 ad had; omega, (by intro e; cases e), by have := hlb2 ad had; omega, hlb2 ad had⟩⟩, World.ownsRow_nil _ _ _ _, hs⟩, hW, by simp [flatP], by rw [restP_zero, hT]; rfl, ⟨-1, by simpa using hv, by omega, by omega⟩, by simp, by simp, hox, by omega, by omega, fun x r hx => by
   have := (hox x (by rw [hx]; simp)).n0
   omega, Nat.le_refl _, hlb1⟩
 have HS := Lib.hid hS
 have HO := Lib.hid hO
 have HD := Lib.hid hD
 have HC := Lib.hid hC
 have HP := Lib.hid hP
 have HMT := Lib.hid hMT
 have HCL := Lib.hid hP.len
 have hcl2 : cs.length ≤ 800000 := by have := hP.len; omega
 clear hS hO hD hC hP hX hal hox hT hv hMT hlb1 hlb2 hc hc2
 go_enter Tryz.func31, Tryz.ntmps31
 go_wp2_with fail
 have h0 := H0.out _ ((Fr0.refl w).alloc _) (alloc_at w _ _ rfl)
 have HL0 := Lib.hid h0
 clear H0 h0
 go_loopw [8, 18] (fun v i wr => ∃ (k : Nat) (ys zs : List Pm) (lv : Value) (u at_ : Int), k ≤ cs.length ∧ i = .int .i64 k ∧ RpL MT L B lb w wr w.heap.size T ps xs.length k v ys zs lv u at_) (fun _ i _ => cs.length - (intOf i).toNat)
 case atStart => exact ⟨0, [], xs, _, 0, 0, Nat.zero_le _, rfl, HL0.out⟩
 case round =>
  obtain ⟨k, ys, zs, lv, u, at_, hk, rfl, hr⟩ := hrel
  clear HL0
  by_cases hlt : k < cs.length
  · have hlt2 : k < ps.length := by have := HCL.out; omega
    obtain ⟨b, off, rfl, lbk, _, hc⟩ := (HC.out.kept0 hr.fr) k hlt
    have c0 := hc 0 _ rfl
    have c1 := hc 1 _ rfl
    have c2 := hc 2 _ rfl
    rw [Nat.add_zero] at c0
    obtain ⟨g1, g2, dx, hbx⟩ := HP.out.get k hlt hlt2
    obtain ⟨last, hfm, hla, hat⟩ := hr.form
    obtain ⟨v1, v2, v3⟩ := validP_get _ _ hfm 0 (by rw [List.length_drop]; omega)
    have hvd := validP_drop hlt2 hfm
    rw [Bool.and_eq_true] at hvd
    obtain ⟨_, _, _, t4, _⟩ := fitP_true hvd.1
    rw [List.getElem_drop] at v1 v2 v3
    have CSZ := Lib.hid (fun W (hW : Fr0 wr W) => sto_size (HS.out.kept0 (hr.fr.trans hW)) HD.out HO.out hbx)
    have HPO := Lib.hid (fun h => piece_ok HD.out HO.out hbx (HMT.out _ (List.getElem_mem _)) h)
    have HNX := Lib.hid (fun wx v ys xs lv u tgt h ht => RpM.next (wr := wx) (v := v) (ys := ys) (xs := xs) (lv := lv) (u := u) (tgt := tgt) hr hlt2 h ht)
    have HR := Lib.hid hr
    have hrb := lt_of_block hr.m.rd
    have hvb := hr.m.own.lt
    have HVB := Lib.hid hvb
    have hat2 : at_ ≤ cs[k].at_ := by rw [g1]; omega
    simp only [Nat.add_zero] at v1 v2 v3
    rw [← g1, ← g2] at HNX v3
    rw [← g1] at v1
    rw [← g2] at v2
    clear hc g1 g2 hbx hr hfm hla hat hvd t4 hvb HC HS HO HD HP HMT
    generalize cs[k] = c at *
    generalize ps[k].text = tx at *
    go_wp2_with fail
    refine (CSZ.out _ ((Fr0.refl wr).alloc _)).mono ?_
    rintro e w3 ⟨rfl, f3⟩
    have hcz := f3.kept (b := wr.heap.size) (alloc_at wr _ _ rfl)
    have F3 := ((Fr0.refl wr).alloc (.cells #[.int .i64 c.at_, .int .i64 c.n, .int .i64 c.text] 55 (0, 0))).trans f3
    obtain ⟨e0, e1, e2, _, le⟩ := cells3 hcz
    have hkN : xs.length + 3 * k + 1 ≤ 900000 := by have := HCL.out; omega
    have CR1 := Lib.hid (pat_read ((HR.out.kept0 F3).start c.at_ hat2) hkN (by omega) v1 (by omega))
    have HF3 := Lib.hid F3
    have HCZ := Lib.hid hcz
    clear f3 CSZ F3 hcz
    go_wp2_with fail
    refine CR1.out.mono ?_
    rintro e w4 ⟨v4, ys4, xs4, lv4, u4, at4, rfl, hl, hd⟩
    have hm4 := HR.out.read _ HF3.out hl hd v1 (by omega)
    have hcz4 := hl.f.cells HCZ.out (by omega) (fun e => by have := (HVB.out _ e).2; omega)
    clear e0 e1 e2 le hl hd CR1
    obtain ⟨e0, e1, e2, _, le⟩ := cells3 hcz4
    have hx4 : xs4.length + 1 ≤ 900000 := by have := hm4.cnt; omega
    have CR2 := Lib.hid (pat_read (hm4.start (c.at_ + c.n) (by omega)) hx4 (by omega) (by omega) (by omega))
    have HM4 := Lib.hid hm4
    have HCZ4 := Lib.hid hcz4
    clear hm4 hcz4 HCZ HF3
    go_wp2_with fail
    refine CR2.out.mono ?_
    rintro e w5 ⟨v5, ys5, xs5, lv5, u5, at5, rfl, hl, hd⟩
    have hm5 := HM4.out.skip hl hd (by omega) (by omega)
    have hcz5 := hl.f.cells HCZ4.out (by omega) (by intro e; cases e)
    clear e0 e1 e2 le hl hd CR2 HM4 HCZ4
    obtain ⟨e0, e1, e2, _, le⟩ := cells3 hcz5
    clear hcz5
    by_cases hn : tx.length = 0
    · have q1 : decide ((0 : Int) < (tx.length : Int)) = false := decide_eq_false (by omega)
      have q2 : decide (0 < tx.length) = false := decide_eq_false (by omega)
      have hz : tx = [] := List.eq_nil_of_length_eq_zero hn
      have hX := HNX.out _ _ _ _ _ _ _ (hm5.more (by omega) (by rw [hz]; simp)) rfl
      have HX := Lib.hid hX
      clear hX hm5 hn hz
      go_wp2_with fail
      go_roundw
      case rel => exact ⟨k + 1, ys4, xs5, lv5, u5, _, by omega, by go_num, HX.out⟩
      case measure => simp [intOf]; omega
    · have q1 : decide ((0 : Int) < (tx.length : Int)) = true := decide_eq_true (by omega)
      have q2 : decide (0 < tx.length) = true := decide_eq_true (by omega)
      have hrow := hm5.m.own
      have hbs := hm5.m.low
      have hyl : ys4.length ≤ 1000000 := by have := hm5.cnt; omega
      have HM5 := Lib.hid hm5
      have HPI := Lib.hid (HPO.out (by omega))
      clear hm5 hn
      go_wp2_with (at_builtin; refine wpList_pushG (vals := Pm.vals) rt_piece rfl _ _ rfl w.heap.size _ ys4 rfl hrow hbs 90 ⟨c.text, 0, tx.length⟩ #[.int .i64 c.text, .int .i64 0, .int .i64 tx.length] rfl rfl (by simp [Pm.vals, Value.oneCell']) 1 _ rfl rfl (by omega) hyl ?_; intro v6 w6 hO6 hg6 hat6)
      have hX := HNX.out _ _ _ _ _ _ _ ((HM5.out.push hO6 hg6 ⟨HPI.out.1, HPI.out.2.1⟩).more (by omega) (by rw [HPI.out.2.2])) rfl
      go_roundw
      case rel => exact ⟨k + 1, _, xs5, lv5, u5, _, by omega, by go_num, hX⟩
      case measure => simp [intOf]; omega
  · have hkz : k = cs.length := by omega
    have hdr : ps.drop k = [] := List.drop_of_length_le (by have := HCL.out; omega)
    obtain ⟨last, _, _, hat⟩ := hr.form
    have hkN : xs.length + 3 * k + 1 ≤ 900000 := by have := HCL.out; omega
    have CR := Lib.hid (pat_read (hr.start 9223372036854775807 (by omega)) hkN (by omega) (by omega) (Int.le_refl _))
    have HX : Hid (∀ v' ys' xs' lv' u' at' w', RdL MT L (flatP (txt L) ys ++ (T.drop at_.toNat).take (9223372036854775807 - at_).toNat) (T.drop (9223372036854775807 : Int).toNat) T.length (xs.length + 3 * k + 1) 9223372036854775807 B w.heap.size lb wr w' w.heap.size u8 v' ys' xs' lv' u' at' → (xs' = [] ∨ 9223372036854775807 ≤ at') → RpPost MT L w (patG embC T 0 ps) (xs.length + 3 * ps.length + 1) (.returned (.tuple #[v', .nilIface])) w') := by
     intro v' ys' xs' lv' u' at' w' hl hd
     have e1 := (hl.s.done hd).1
     have hf := hr.fin
     have hks := hl.s.k
     rw [hdr, patG] at hf
     rw [List.take_of_length_le (by rw [List.length_drop]; omega), hf] at e1
     exact ⟨v', ys', rfl, Fr.trans hr.fr hl.f (fun i e hi => by
      rcases e with e | e
      · have := hr.rbn; omega
      · have := own_ge hr.m.own e; omega), hl.m.own, e1, hl.s.oy, by have := HCL.out; split at hks <;> omega⟩
    clear hr hkz hdr hat hkN HC HS HO HD HP HCL HMT
    go_wp2_with fail
    refine CR.out.mono ?_
    rintro e w4 ⟨v4, ys4, xs4, lv4, u4, at4, rfl, hl, hd⟩
    have HX2 := Lib.hid (HX.out _ _ _ _ _ _ _ hl hd)
    clear hl hd HX CR
    go_wp2_with fail
    go_ret2
    exact HX2.out
end Go.Proofs.YtgldjpldldknoaaGreatDoor
/- The walks of patch.concat and patch.collect. -/
set_option linter.unusedSimpArgs false
set_option linter.unusedVariables false
namespace Go.Proofs.YtgldjpldldknoaaGreatDoor
open Go.RowKit
def btwQ (tx_ : Int → List Int) : Int → List Int → List Pm → List PC
 | _, _, [] => []
 | next, tx, x :: r => if x.text ≠ 0 then btwQ tx_ next (tx ++ cutL (tx_ x.text) x.from_ x.n) r else chgIf next x.from_ tx ++ btwQ tx_ (x.from_ + x.n) [] r
theorem btwQ_end (tx_ : Int → List Int) (len : Int) : ∀ (xs : List Pm) (next : Int) (tx : List Int), btwQ tx_ next tx (xs ++ [⟨0, len, 0⟩]) = btwP len tx_ next tx xs
 | [], next, tx => by simp [btwQ, btwP]
 | x :: r, next, tx => by
  simp only [List.cons_append, btwQ, btwP, btwQ_end tx_ len r]
theorem btwQ_step (tx_ : Int → List Int) (zs : List Pm) (k : Nat) (h : k < zs.length) (next : Int) (tx : List Int) :
    btwQ tx_ next tx (zs.drop k) = if zs[k].text ≠ 0 then btwQ tx_ next (tx ++ cutL (tx_ zs[k].text) zs[k].from_ zs[k].n) (zs.drop (k + 1)) else chgIf next zs[k].from_ tx ++ btwQ tx_ (zs[k].from_ + zs[k].n) [] (zs.drop (k + 1)) := by
 rw [List.drop_eq_getElem_cons h, btwQ]
set_option maxRecDepth 100000 in
set_option maxHeartbeats 1000000 in
theorem pat_concat {B : Nat} {w : World} {p mb : Nat} {most : Int} {L : List Ent} {ids : List Int} {ts : List (List Int)} {a : Option Addr} {cap : Nat} (D : Nat) (hR : Room B w p mb most L (ids.length * (3 * D + 1))) (hI : IntsAt w a ids) (hA : AllB L ids ts)
    (hl : ids.length ≤ 1000000) (ht : (ts.flatten.length : Int) ≤ 1152921504606846976) (hD : ts.flatten.length < lst (D + 1)) :
    Calls Tryz.prog 52 #[.pointer (some ⟨p, 0, none⟩), .slice a ids.length cap] w (ZPost B w p mb most L ts.flatten (fun d k => k ≤ ids.length * (3 * D + 1))) := by
 have CC := Lib.hid (bal_Concat (cap := cap) D hR hI hA hl ht hD)
 have HR := Lib.hid hR
 have hal := hA.len
 by_cases h0 : ids.length = 0
 · obtain rfl : ids = [] := List.eq_nil_of_length_eq_zero h0
   obtain rfl : ts = [] := List.eq_nil_of_length_eq_zero hal.symm
   clear hR hI hA ht hD CC hal h0 hl
   go_enter Tryz.func52, Tryz.ntmps52
   go_wp2_with fail
   go_ret2
   exact ZPost.same HR.out (Fr0.refl w) (BalZ.zero L) (by simp)
 · by_cases h1 : ids.length = 1
   · obtain ⟨x, rfl⟩ : ∃ x, ids = [x] := List.length_eq_one_iff.1 h1
     obtain ⟨t, rfl⟩ : ∃ t, ts = [t] := List.length_eq_one_iff.1 hal.symm
     obtain ⟨d, hb⟩ := hA.1
     obtain ⟨b, off, rfl, lb, hc⟩ := hI.cell 0 (by simp)
     simp only [List.getElem_cons_zero, Nat.add_zero] at hc
     have HB := Lib.hid hb
     clear hR hI hA ht hD CC hal h0 hl h1 hb
     go_enter Tryz.func52, Tryz.ntmps52
     go_wp2_with fail
     go_ret2
     exact ZPost.same HR.out (by first | exact Fr0.refl w | exact (Fr0.refl w).drewN _) (by simpa using HB.out) (by simp)
   · have q0 : ((ids.length : Int) == 0) = false := beq_eq_false_iff_ne.2 (by omega)
     have q1 : ((ids.length : Int) == 1) = false := beq_eq_false_iff_ne.2 (by omega)
     clear hR hI hA ht hD hal h0 h1
     go_enter Tryz.func52, Tryz.ntmps52
     go_wp2_with fail
     refine CC.out.mono ?_
     rintro e w2 hx
     obtain ⟨z, rfl⟩ := hx.ret
     have HX := Lib.hid (hx.mono (E := fun d' k => k ≤ ids.length * (3 * D + 1)) rfl (fun e k h => h.2))
     clear hx CC
     go_wp2_with fail
     go_ret2
     exact HX.out
def ClPost (B : Nat) (w : World) (p mb : Nat) (most : Int) (L : List Ent) (qs : List PC) (N : Nat) (e : Ending) (w' : World) : Prop :=
 ∃ L' v cs k, e = .returned (.tuple #[v, .nilIface]) ∧ Sto B w' p mb most L' ∧ Kp B mb w w' ∧ Grows L L' k ∧ k ≤ N ∧ w'.ownsRow w.heap.size 55 3 v cs.length (cs.flatMap Chg.vals) ∧ PChg L' cs qs
structure ClR (B : Nat) (w0 wr : World) (p mb : Nat) (most : Int) (L : List Ent) (D : Nat) (RES : List PC) (zs : List Pm) (lv : Value) (k : Nat) (cv tv : Value) (at_ : Int) (L' : List Ent) (cs : List Chg) (ids : List Int) (ts : List (List Int)) (done : List PC) : Prop where
 st : Sto B wr p mb most L'
 kp : Kp B mb w0 wr
 gr : ∃ n, Grows L L' n ∧ n + ids.length * (3 * D + 1) ≤ k * (14 * D + 2)
 cv : wr.ownsRow w0.heap.size 55 3 cv cs.length (cs.flatMap Chg.vals)
 tv : wr.ownsRow w0.heap.size 28 1 tv ids.length (ids.map fun x => Value.int .i64 x)
 pl : wr.ownsRow w0.heap.size 90 3 lv zs.length (zs.flatMap Pm.vals)
 ch : PChg L' cs done
 tx : AllB L' ids ts
 ne : ∀ t ∈ ts, t ≠ []
 res : done ++ btwQ (txt L) at_ ts.flatten (zs.drop k) = RES
 il : ids.length ≤ k
 cl : cs.length ≤ k
 a0 : 0 ≤ at_
 a1 : at_ ≤ 1152921504606846976
theorem Room.next' {B : Nat} {w w' : World} {p mb : Nat} {most : Int} {L L' : List Ent} {n m k : Nat} (h : Room B w p mb most L n) (hS : Sto B w' p mb most L') (hb : B ≤ w'.heap.size) (hg : Grows L L' m) (hk : m + k ≤ n) : Room B w' p mb most L' k :=
 ⟨hS, hb, hg.sok, hg.dok, by have := h.most; have := hg.len; omega, by have := h.big; have := hg.len; omega⟩
theorem owns_read {α : Type} {vals : α → List Value} {size B base : Nat} {T : TypeId} {w : World} {a : Option Addr} {n cap : Nat} {xs : List α} (hv : ∀ x ∈ xs, (vals x).length = size) (h : w.ownsRow base T size (.slice a n cap) xs.length (xs.flatMap vals)) (h1 : T ≠ 100) (h2 : T ≠ 84) : RG vals size B w a xs := by
 obtain ⟨a', cap', e, hr⟩ := rg_of_own (B := B) hv h h1 h2
 simp only [Value.slice.injEq] at e
 obtain ⟨rfl, _, _⟩ := e
 exact hr
theorem flat_nil_iff {ts : List (List Int)} (h : ∀ t ∈ ts, t ≠ []) : ts.flatten ≠ [] ↔ 0 < ts.length := by
 cases ts with
 | nil => simp
 | cons t r =>
  have := h t (by simp)
  simp [this]
theorem ClR.keep {B : Nat} {w0 wr w' : World} {p mb : Nat} {most : Int} {L : List Ent} {D : Nat} {RES : List PC} {zs : List Pm} {lv : Value} {k : Nat} {cv tv : Value} {at_ : Int} {L' : List Ent} {cs : List Chg} {ids : List Int} {ts : List (List Int)} {done : List PC} (h : ClR B w0 wr p mb most L D RES zs lv k cv tv at_ L' cs ids ts done) (hf : Fr0 wr w') (hk : k < zs.length) (h0 : zs[k].text = 0) (hn : ¬ (at_ < zs[k].from_ ∨ 0 < ids.length)) (h1 : 0 ≤ zs[k].from_ + zs[k].n) (h2 : zs[k].from_ + zs[k].n ≤ 1152921504606846976) :
    ClR B w0 w' p mb most L D RES zs lv (k + 1) cv (.slice none 0 0) (zs[k].from_ + zs[k].n) L' cs [] [] done := by
 obtain ⟨n, hg, hn2⟩ := h.gr
 have hal := h.tx.len
 have hr := h.res
 rw [btwQ_step _ _ _ hk, if_neg (by simpa using h0), chgIf_no (by
  intro hh
  rcases hh with hh | hh
  · exact hn (.inl hh)
  · exact hn (.inr (by rw [hal]; exact (flat_nil_iff h.ne).1 hh)))] at hr
 exact ⟨h.st.kept0 hf, h.kp.trans (Kp.of0 hf), ⟨n, hg, by rw [Nat.add_mul]; simp; omega⟩, hf.owns h.cv, World.ownsRow_nil _ _ _ _, hf.owns h.pl, h.ch, trivial, by simp, by simpa using hr, by simp, by have := h.cl; omega, h1, h2⟩
theorem ClR.text {B : Nat} {w0 wr w1 w2 w' : World} {p mb : Nat} {most : Int} {L : List Ent} {D : Nat} {RES : List PC} {zs : List Pm} {lv : Value} {k : Nat} {cv tv tv' : Value} {at_ : Int} {L' L2 : List Ent} {cs : List Chg} {ids : List Int} {ts : List (List Int)} {done : List PC} {z : Int} {d : Int} {kz : Nat} {o : Obj} (h : ClR B w0 wr p mb most L D RES zs lv k cv tv at_ L' cs ids ts done) (hf : Fr0 wr w1) (hk : k < zs.length) (h0 : zs[k].text ≠ 0)
    (hS : Sto B w2 p mb most L2) (hK : Kp B mb w1 w2) (g : Grows L' L2 kz) (hkz : kz ≤ 11 * D + 1) (hb : BalZ L2 z (cutL (txt L zs[k].text) zs[k].from_ zs[k].n) d) (hne : cutL (txt L zs[k].text) zs[k].from_ zs[k].n ≠ [])
    (h1 : w'.ownsRow w0.heap.size 28 1 tv' (ids ++ [z]).length ((ids ++ [z]).map fun x => Value.int .i64 x)) (hg : (w2.alloc o).grownBy w' tv.ownBlock) :
    ClR B w0 w' p mb most L D RES zs lv (k + 1) cv tv' at_ L2 cs (ids ++ [z]) (ts ++ [cutL (txt L zs[k].text) zs[k].from_ zs[k].n]) done := by
 obtain ⟨n, hgr, hn2⟩ := h.gr
 have hr := h.res
 rw [btwQ_step _ _ _ hk, if_pos h0] at hr
 have hK2 : Kp B mb w0 w2 := (h.kp.trans (Kp.of0 hf)).trans hK
 have htv := hK.owns (hf.owns h.tv) (by decide) (by decide)
 have hcv := hK.owns (hf.owns h.cv) (by decide) (by decide)
 have hpl := hK.owns (hf.owns h.pl) (by decide) (by decide)
 have hF : Fr (fun j => tv.ownBlock = some j) w2 w' := Fr.grown ((Fr.refl _ w2).alloc o) hg (fun j hj _ => hj)
 refine ⟨hS.push htv (by decide) (by decide) hg, (hK2.alloc _).grown hg (fun j hj => (htv.lt j hj).1), ⟨n + (11 * D + 1), hgr.trans g (by omega), ?_⟩, hF.owns hcv ?_, h1, hF.owns hpl ?_, h.ch.more g hgr.dok, (h.tx.more g hgr.dok).snoc hb, ?_, ?_, by rw [List.length_append]; have := h.il; simp; omega, by have := h.cl; omega, h.a0, h.a1⟩
 · have e1 : (k + 1) * (14 * D + 2) = k * (14 * D + 2) + (14 * D + 2) := by rw [Nat.add_mul, Nat.one_mul]
   have e2 : (ids ++ [z]).length * (3 * D + 1) = ids.length * (3 * D + 1) + (3 * D + 1) := by rw [List.length_append, List.length_singleton, Nat.add_mul, Nat.one_mul]
   rw [e1, e2]
   omega
 · intro j hj e
   obtain ⟨c1, e1⟩ := owns_block hcv hj
   obtain ⟨c2, e2⟩ := owns_block htv e
   exact ne_of_types e1 e2 (by decide) rfl
 · intro j hj e
   obtain ⟨c1, e1⟩ := owns_block hpl hj
   obtain ⟨c2, e2⟩ := owns_block htv e
   exact ne_of_types e1 e2 (by decide) rfl
 · intro t ht
   rcases List.mem_append.1 ht with ht | ht
   · exact h.ne t ht
   · simp only [List.mem_singleton] at ht
     subst ht
     exact hne
 · rw [List.flatten_append]
   simpa using hr
theorem ClR.change {B : Nat} {w0 wr w1 w2 w' : World} {p mb : Nat} {most : Int} {L : List Ent} {D : Nat} {RES : List PC} {zs : List Pm} {lv : Value} {k : Nat} {cv cv' tv : Value} {at_ : Int} {L' L2 : List Ent} {cs : List Chg} {ids : List Int} {ts : List (List Int)} {done : List PC} {z : Int} {d : Int} {kz : Nat} {o : Obj} (h : ClR B w0 wr p mb most L D RES zs lv k cv tv at_ L' cs ids ts done) (hf : Fr0 wr w1) (hk : k < zs.length) (h0 : zs[k].text = 0) (hn : at_ < zs[k].from_ ∨ 0 < ids.length)
    (hS : Sto B w2 p mb most L2) (hK : Kp B mb w1 w2) (g : Grows L' L2 kz) (hkz : kz ≤ ids.length * (3 * D + 1)) (hb : BalZ L2 z ts.flatten d) (h3 : 0 ≤ zs[k].from_ + zs[k].n) (h4 : zs[k].from_ + zs[k].n ≤ 1152921504606846976)
    (h1 : w'.ownsRow w0.heap.size 55 3 cv' (cs ++ [(⟨at_, zs[k].from_ - at_, z⟩ : Chg)]).length ((cs ++ [(⟨at_, zs[k].from_ - at_, z⟩ : Chg)]).flatMap Chg.vals)) (hg : (w2.alloc o).grownBy w' cv.ownBlock) :
    ClR B w0 w' p mb most L D RES zs lv (k + 1) cv' (.slice none 0 0) (zs[k].from_ + zs[k].n) L2 (cs ++ [⟨at_, zs[k].from_ - at_, z⟩]) [] [] (done ++ [⟨at_, zs[k].from_ - at_, ts.flatten⟩]) := by
 obtain ⟨n, hgr, hn2⟩ := h.gr
 have hal := h.tx.len
 have hr := h.res
 rw [btwQ_step _ _ _ hk, if_neg (by simpa using h0), chgIf_yes (by
  rcases hn with hn | hn
  · exact .inl hn
  · exact .inr ((flat_nil_iff h.ne).2 (by omega)))] at hr
 have hK2 : Kp B mb w0 w2 := (h.kp.trans (Kp.of0 hf)).trans hK
 have hcv := hK.owns (hf.owns h.cv) (by decide) (by decide)
 have hpl := hK.owns (hf.owns h.pl) (by decide) (by decide)
 have hF : Fr (fun j => cv.ownBlock = some j) w2 w' := Fr.grown ((Fr.refl _ w2).alloc o) hg (fun j hj _ => hj)
 refine ⟨hS.push hcv (by decide) (by decide) hg, (hK2.alloc _).grown hg (fun j hj => (hcv.lt j hj).1), ⟨n + ids.length * (3 * D + 1), hgr.trans g (by omega), ?_⟩, h1, World.ownsRow_nil _ _ _ _, hF.owns hpl ?_, (h.ch.more g hgr.dok).snoc rfl rfl hb, trivial, by simp, ?_, by simp, by rw [List.length_append]; have := h.cl; simp; omega, h3, h4⟩
 · have e1 : (k + 1) * (14 * D + 2) = k * (14 * D + 2) + (14 * D + 2) := by rw [Nat.add_mul, Nat.one_mul]
   rw [e1]
   simp
   omega
 · intro j hj e
   obtain ⟨c1, e1⟩ := owns_block hpl hj
   obtain ⟨c2, e2⟩ := owns_block hcv e
   exact ne_of_types e1 e2 (by decide) rfl
 · simpa using hr
theorem ClR.kept0 {B : Nat} {w0 wr w' : World} {p mb : Nat} {most : Int} {L : List Ent} {D : Nat} {RES : List PC} {zs : List Pm} {lv : Value} {k : Nat} {cv tv : Value} {at_ : Int} {L' : List Ent} {cs : List Chg} {ids : List Int} {ts : List (List Int)} {done : List PC} (h : ClR B w0 wr p mb most L D RES zs lv k cv tv at_ L' cs ids ts done) (hf : Fr0 wr w') : ClR B w0 w' p mb most L D RES zs lv k cv tv at_ L' cs ids ts done :=
 ⟨h.st.kept0 hf, h.kp.trans (Kp.of0 hf), h.gr, hf.owns h.cv, hf.owns h.tv, hf.owns h.pl, h.ch, h.tx, h.ne, h.res, h.il, h.cl, h.a0, h.a1⟩
set_option maxRecDepth 100000 in
set_option maxHeartbeats 4000000 in
theorem pat_collect {B : Nat} {w0 w : World} {p mb : Nat} {most : Int} {MT : Nat} {L : List Ent} (D : Nat) {xs : List Pm} (hR : Room B w p mb most L ((xs.length + 1) * (14 * D + 2))) (hB : B ≤ w0.heap.size) (hK : Kp B mb w0 w) (lv : Value) (hlv : w.ownsRow w0.heap.size 90 3 lv xs.length (xs.flatMap Pm.vals))
    (hox : ∀ x ∈ xs, POk MT L x ∧ (x.text ≠ 0 → 0 < x.n)) (len : Int) (hl0 : 0 ≤ len) (hl1 : len ≤ 1152921504606846976) (hM : MT < lst (D + 1)) {RES : List PC} (hRes : btwP len (txt L) 0 [] xs = RES) (hI : insP RES < lst (D + 1)) (hI2 : insP RES ≤ 100000000) (hxl : xs.length ≤ 500000) :
    Calls Tryz.prog 32 #[.pointer (some ⟨p, 0, none⟩), .int .i64 len, lv] w (ClPost B w0 p mb most L RES ((xs.length + 1) * (14 * D + 2))) := by
 obtain ⟨la, lcap, rfl⟩ := owns_form hlv
 have hz : ∀ z ∈ xs ++ [(⟨0, len, 0⟩ : Pm)], POk MT L z ∧ (z.text ≠ 0 → 0 < z.n) := by
  intro z hz
  rcases List.mem_append.1 hz with hz | hz
  · exact hox z hz
  · simp only [List.mem_singleton] at hz
    subst hz
    exact ⟨⟨hl0, Int.le_refl _, by show len + 0 ≤ _; omega, fun h => absurd rfl h⟩, fun h => absurd rfl h⟩
 have h0 : ∀ v' w', w'.ownsRow w0.heap.size 90 3 v' (xs ++ [(⟨0, len, 0⟩ : Pm)]).length ((xs ++ [(⟨0, len, 0⟩ : Pm)]).flatMap Pm.vals) → (w.alloc (.cells #[.int .i64 0, .int .i64 len, .int .i64 0] 90 (0, 0))).grownBy w' (Value.slice la xs.length lcap).ownBlock → ClR B w0 w' p mb most L D RES (xs ++ [(⟨0, len, 0⟩ : Pm)]) v' 0 (.slice none 0 0) (.slice none 0 0) 0 L [] [] [] [] := by
  intro v' w' h1 h2
  exact ⟨hR.st.push hlv (by decide) (by decide) h2, (hK.alloc _).grown h2 (fun j hj => (hlv.lt j hj).1), ⟨0, Grows.refl hR.sok hR.dok, by simp⟩, World.ownsRow_nil _ _ _ _, World.ownsRow_nil _ _ _ _, h1, trivial, trivial, by simp, by rw [List.drop_zero, btwQ_end]; exact hRes, by simp, by simp, by omega, by omega⟩
 have H0 := Lib.hid h0
 have HR := Lib.hid hR
 have HZ := Lib.hid hz
 have HM := Lib.hid hM
 have HI := Lib.hid hI
 have HLV := Lib.hid hlv
 have hbs : w0.heap.size ≤ w.heap.size := hK.size
 have HB := Lib.hid hB
 have HZL : Hid ((xs ++ [(⟨0, len, 0⟩ : Pm)]).length = xs.length + 1) := by show _ = _; simp
 clear hR hK hlv hox hM hRes hI hz h0 hB
 go_enter Tryz.func32, Tryz.ntmps32
 have hxl2 : xs.length ≤ 1000000 := by omega
 go_wp2_with (at_builtin; refine wpList_pushG (vals := Pm.vals) rt_piece rfl _ _ rfl w0.heap.size _ xs rfl HLV.out hbs 90 ⟨0, len, 0⟩ #[.int .i64 0, .int .i64 len, .int .i64 0] rfl rfl (by simp [Pm.vals, Value.oneCell']) 1 _ rfl rfl (by omega) hxl2 ?_; intro v1 w1 hO1 hg1 hat1; obtain ⟨za, zcap, rfl⟩ := owns_form hO1; have HC0 := Lib.hid (H0.out _ _ hO1 hg1); clear hO1 hg1 hat1; rw [HZL.out]; have hzl := HZL.out; generalize hzs : xs ++ [(⟨0, len, 0⟩ : Pm)] = zs at *; clear hzs)
 go_loopw [8, 9, 10, 23] (fun cv tv av i wr => ∃ (k : Nat) (at_ : Int) (L' : List Ent) (cs : List Chg) (ids : List Int) (ts : List (List Int)) (done : List PC), k ≤ zs.length ∧ i = .int .i64 k ∧ av = .int .i64 at_ ∧ ClR B w0 wr p mb most L D RES zs (.slice za zs.length zcap) k cv tv at_ L' cs ids ts done) (fun _ _ _ i _ => zs.length - (intOf i).toNat)
 case atStart => exact ⟨0, 0, L, [], [], [], [], Nat.zero_le _, rfl, rfl, HC0.out⟩
 case round =>
  obtain ⟨k, at_, L', cs, ids, ts, done, hk, rfl, rfl, hr⟩ := hrel
  clear HC0 H0
  by_cases hlt : k < zs.length
  · obtain ⟨hp, hp2⟩ := HZ.out _ (List.getElem_mem hlt)
    obtain ⟨b, off, rfl, lbk, _, hc⟩ := owns_read (vals := Pm.vals) (size := 3) (B := 0) (fun _ _ => rfl) hr.pl (by decide) (by decide) k hlt
    have c0 := hc 0 _ rfl
    have c1 := hc 1 _ rfl
    have c2 := hc 2 _ rfl
    rw [Nat.add_zero] at c0
    obtain ⟨n, hgr, hn⟩ := hr.gr
    have f0 := hp.f0
    have n0 := hp.n0
    have fu := hp.up
    have a0 := hr.a0
    have a1 := hr.a1
    have hBw : B ≤ wr.heap.size := Nat.le_trans HB.out hr.kp.size
    have e1 : (k + 1) * (14 * D + 2) ≤ (xs.length + 1) * (14 * D + 2) := Nat.mul_le_mul_right _ (by omega)
    have e2 : (k + 1) * (14 * D + 2) = k * (14 * D + 2) + (14 * D + 2) := by rw [Nat.add_mul, Nat.one_mul]
    by_cases h0 : zs[k].text = 0
    · have q0 : (zs[k].text == 0) = true := beq_iff_eq.2 h0
      by_cases hfa : at_ < zs[k].from_
      · have q2 : decide (at_ < zs[k].from_) = true := decide_eq_true hfa
        have hon : at_ < zs[k].from_ ∨ 0 < ids.length := .inl hfa
        clear hfa
        have hal := hr.tx.len
        have htl : ts.flatten.length < lst (D + 1) ∧ ts.flatten.length ≤ 100000000 := by
         have hres := hr.res
         rw [btwQ_step _ _ _ hlt, if_neg (by simpa using h0), chgIf_yes (by
          rcases hon with hon | hon
          · exact .inl hon
          · exact .inr ((flat_nil_iff hr.ne).2 (by omega)))] at hres
         have hins : ts.flatten.length ≤ insP RES := by
          rw [← hres]
          exact insP_memB _ ⟨at_, zs[k].from_ - at_, ts.flatten⟩ (by simp)
         have := HI.out
         omega
        have e3 : ids.length * (3 * D + 1) ≤ k * (14 * D + 2) := by omega
        have hroom : Room B wr p mb most L' (ids.length * (3 * D + 1)) := HR.out.next' hr.st hBw hgr (by omega)
        obtain ⟨ta, tcap, rfl, hIs⟩ := ints_of_own hr.tv (by decide) (by decide)
        have hil := hr.il
        have hcl := hr.cl
        have CX := Lib.hid (fun W (hW : Fr0 wr W) => pat_concat (cap := tcap) D (hroom.kept0 hW) (hIs.kept0 hW) hr.tx (by omega) (by omega) htl.1)
        have HNX := Lib.hid (fun w1 w2 w' L2 z kz dz cv' o hf hS hK g hkz hb h1 hg => hr.change (w1 := w1) (w2 := w2) (w' := w') (L2 := L2) (z := z) (kz := kz) (d := dz) (cv' := cv') (o := o) hf hlt h0 hon hS hK g hkz hb (by omega) fu h1 hg)
        have HRR := Lib.hid hr
        have hbsr : w0.heap.size ≤ wr.heap.size := hr.kp.size
        have hcl2 : cs.length ≤ 1000000 := by omega
        have s1 : 0 ≤ zs[k].from_ + zs[k].n := by omega
        clear hp hp2 hc hgr hn htl hroom hr e1 e2 e3 hBw h0 hIs hal hon
        generalize hx : zs[k] = x at *
        clear hx
        go_wp2_with fail
        have hf1 := (Fr0.refl wr).alloc (.cells #[.int .i64 x.text, .int .i64 x.from_, .int .i64 x.n] 90 (0, 0))
        refine (CX.out _ hf1).mono ?_
        rintro e w3 ⟨L2, z, dz, kz, rfl, hS2, hK2, g2, bz, hz⟩
        have hr3 := hK2.cells _ _ _ _ (alloc_at wr (.cells #[.int .i64 x.text, .int .i64 x.from_, .int .i64 x.n] 90 (0, 0)) _ rfl) (by decide) (by decide)
        obtain ⟨d0, d1, d2, _, ld⟩ := cells3 hr3
        have hcv := hK2.owns (hf1.owns HRR.out.cv) (by decide) (by decide)
        have hbs3 : w0.heap.size ≤ w3.heap.size := Nat.le_trans ((HRR.out.kp).trans (Kp.of0 hf1)).size hK2.size
        have HN := Lib.hid (fun w' cv' o h1 hg => HNX.out _ _ w' L2 z kz dz cv' o hf1 hS2 hK2 g2 hz bz h1 hg)
        have hnb : u8.ownBlock ≠ some wr.heap.size := fun h => by have := (HRR.out.cv.lt _ h).2; omega
        have HR3 := Lib.hid hr3
        clear hS2 hK2 g2 bz hz hf1 CX HNX hr3
        go_wp2_with (at_builtin; refine wpList_pushG (vals := Chg.vals) rt_chg rfl _ _ rfl w0.heap.size _ cs rfl hcv hbs3 55 ⟨at_, x.from_ - at_, z⟩ #[.int .i64 at_, .int .i64 (x.from_ - at_), .int .i64 z] rfl rfl (by simp [Chg.vals, Value.oneCell']) 1 _ rfl rfl (by omega) hcl2 ?_; intro v' w4 hO4 hg4 hat4; (have hr4 : w4.heap[wr.heap.size]? = _ := (hg4.block _ (by simp; omega) (fun e => hnb e.symm)).trans ((alloc_lt _ _ _ ld).trans HR3.out)); obtain ⟨j0, j1, j2, _, l4⟩ := cells3 hr4; clear hr4)
        have HX := HN.out _ _ _ hO4 hg4
        go_roundw
        case rel => exact ⟨k + 1, x.from_ + x.n, L2, _, [], [], _, by omega, by go_num, rfl, HX⟩
        case measure => simp [intOf]; omega
      · have q2 : decide (at_ < zs[k].from_) = false := decide_eq_false hfa
        by_cases hil0 : 0 < ids.length
        · have q3 : decide (0 < ids.length) = true := decide_eq_true hil0
          have q4 : decide ((0 : Int) < (ids.length : Int)) = true := decide_eq_true (by omega)
          have hon : at_ < zs[k].from_ ∨ 0 < ids.length := .inr hil0
          clear hfa hil0
          have hal := hr.tx.len
          have htl : ts.flatten.length < lst (D + 1) ∧ ts.flatten.length ≤ 100000000 := by
           have hres := hr.res
           rw [btwQ_step _ _ _ hlt, if_neg (by simpa using h0), chgIf_yes (by
            rcases hon with hon | hon
            · exact .inl hon
            · exact .inr ((flat_nil_iff hr.ne).2 (by omega)))] at hres
           have hins : ts.flatten.length ≤ insP RES := by
            rw [← hres]
            exact insP_memB _ ⟨at_, zs[k].from_ - at_, ts.flatten⟩ (by simp)
           have := HI.out
           omega
          have e3 : ids.length * (3 * D + 1) ≤ k * (14 * D + 2) := by omega
          have hroom : Room B wr p mb most L' (ids.length * (3 * D + 1)) := HR.out.next' hr.st hBw hgr (by omega)
          obtain ⟨ta, tcap, rfl, hIs⟩ := ints_of_own hr.tv (by decide) (by decide)
          have hil := hr.il
          have hcl := hr.cl
          have CX := Lib.hid (fun W (hW : Fr0 wr W) => pat_concat (cap := tcap) D (hroom.kept0 hW) (hIs.kept0 hW) hr.tx (by omega) (by omega) htl.1)
          have HNX := Lib.hid (fun w1 w2 w' L2 z kz dz cv' o hf hS hK g hkz hb h1 hg => hr.change (w1 := w1) (w2 := w2) (w' := w') (L2 := L2) (z := z) (kz := kz) (d := dz) (cv' := cv') (o := o) hf hlt h0 hon hS hK g hkz hb (by omega) fu h1 hg)
          have HRR := Lib.hid hr
          have hbsr : w0.heap.size ≤ wr.heap.size := hr.kp.size
          have hcl2 : cs.length ≤ 1000000 := by omega
          have s1 : 0 ≤ zs[k].from_ + zs[k].n := by omega
          clear hp hp2 hc hgr hn htl hroom hr e1 e2 e3 hBw h0 hIs hal hon
          generalize hx : zs[k] = x at *
          clear hx
          go_wp2_with fail
          have hf1 := (Fr0.refl wr).alloc (.cells #[.int .i64 x.text, .int .i64 x.from_, .int .i64 x.n] 90 (0, 0))
          refine (CX.out _ hf1).mono ?_
          rintro e w3 ⟨L2, z, dz, kz, rfl, hS2, hK2, g2, bz, hz⟩
          have hr3 := hK2.cells _ _ _ _ (alloc_at wr (.cells #[.int .i64 x.text, .int .i64 x.from_, .int .i64 x.n] 90 (0, 0)) _ rfl) (by decide) (by decide)
          obtain ⟨d0, d1, d2, _, ld⟩ := cells3 hr3
          have hcv := hK2.owns (hf1.owns HRR.out.cv) (by decide) (by decide)
          have hbs3 : w0.heap.size ≤ w3.heap.size := Nat.le_trans ((HRR.out.kp).trans (Kp.of0 hf1)).size hK2.size
          have HN := Lib.hid (fun w' cv' o h1 hg => HNX.out _ _ w' L2 z kz dz cv' o hf1 hS2 hK2 g2 hz bz h1 hg)
          have hnb : u8.ownBlock ≠ some wr.heap.size := fun h => by have := (HRR.out.cv.lt _ h).2; omega
          have HR3 := Lib.hid hr3
          clear hS2 hK2 g2 bz hz hf1 CX HNX hr3
          go_wp2_with (at_builtin; refine wpList_pushG (vals := Chg.vals) rt_chg rfl _ _ rfl w0.heap.size _ cs rfl hcv hbs3 55 ⟨at_, x.from_ - at_, z⟩ #[.int .i64 at_, .int .i64 (x.from_ - at_), .int .i64 z] rfl rfl (by simp [Chg.vals, Value.oneCell']) 1 _ rfl rfl (by omega) hcl2 ?_; intro v' w4 hO4 hg4 hat4; (have hr4 : w4.heap[wr.heap.size]? = _ := (hg4.block _ (by simp; omega) (fun e => hnb e.symm)).trans ((alloc_lt _ _ _ ld).trans HR3.out)); obtain ⟨j0, j1, j2, _, l4⟩ := cells3 hr4; clear hr4)
          have HX := HN.out _ _ _ hO4 hg4
          go_roundw
          case rel => exact ⟨k + 1, x.from_ + x.n, L2, _, [], [], _, by omega, by go_num, rfl, HX⟩
          case measure => simp [intOf]; omega
        · have q3 : decide (0 < ids.length) = false := decide_eq_false hil0
          have q4 : decide ((0 : Int) < (ids.length : Int)) = false := decide_eq_false (by omega)
          obtain ⟨ta, tcap, rfl⟩ := owns_form hr.tv
          have HNX := Lib.hid (fun w' hf => hr.keep (w' := w') hf hlt h0 (fun h => h.elim hfa hil0) (by omega) fu)
          have hcl := hr.cl
          clear hp hp2 hc hgr hn hr e1 e2 hBw h0 hfa hil0
          generalize hx : zs[k] = x at *
          clear hx
          go_wp2_with fail
          have HX := HNX.out _ ((Fr0.refl wr).alloc (.cells #[.int .i64 x.text, .int .i64 x.from_, .int .i64 x.n] 90 (0, 0)))
          go_roundw
          case rel => exact ⟨k + 1, x.from_ + x.n, L', cs, [], [], done, by omega, by go_num, rfl, HX⟩
          case measure => simp [intOf]; omega
    · obtain ⟨t, d, hb, hft, htM⟩ := hp.text h0
      have hb' := hgr.balz HR.out.dok hb
      obtain ⟨d0, d1⟩ := hb'.deep hgr.dok hgr.sok (D := D) (by have := HM.out; omega)
      have hcl := cut_len f0 n0 hft
      have hpos := hp2 h0
      have hne : cutL (txt L zs[k].text) zs[k].from_ zs[k].n ≠ [] := by
       rw [hb.text]
       intro h
       rw [h] at hcl
       simp at hcl
       omega
      have q1 : (zs[k].text == 0) = false := beq_eq_false_iff_ne.2 h0
      have hroom : Room B wr p mb most L' (11 * d.toNat + 1) := HR.out.next' hr.st hBw hgr (by omega)
      have CX := Lib.hid (fun W (hW : Fr0 wr W) => pat_section (f := zs[k].from_) (n := zs[k].n) (hroom.kept0 hW) hb' f0 n0 hft)
      have HTX := Lib.hid hb.text
      have HKZ : Hid (11 * d.toNat + 1 ≤ 11 * D + 1) := by show _ ≤ _; omega
      have HNX := Lib.hid (fun w1 w2 w' L2 z kz dz tv' o hf hS hK g hkz hb h1 hg => hr.text (w1 := w1) (w2 := w2) (w' := w') (L2 := L2) (z := z) (kz := kz) (d := dz) (tv' := tv') (o := o) hf hlt h0 hS hK g hkz hb hne h1 hg)
      have HRR := Lib.hid hr
      have hil := hr.il
      clear hp hp2 hc hgr hn hb hb' hft htM d0 d1 hcl hne hroom hr e1 e2 hBw h0
      generalize hx : zs[k] = x at *
      clear hx
      go_wp2_with fail
      have hf1 := (Fr0.refl wr).alloc (.cells #[.int .i64 x.text, .int .i64 x.from_, .int .i64 x.n] 90 (0, 0))
      refine (CX.out _ hf1).mono ?_
      rintro e w3 ⟨L2, z, dz, kz, rfl, hS2, hK2, g2, bz, hz⟩
      have htv := hK2.owns (hf1.owns HRR.out.tv) (by decide) (by decide)
      have hbs3 : w0.heap.size ≤ w3.heap.size := Nat.le_trans ((HRR.out.kp).trans (Kp.of0 hf1)).size hK2.size
      have HN := Lib.hid (fun w' tv' o h1 hg => HNX.out _ _ w' L2 z kz dz tv' o hf1 hS2 hK2 g2 (by have := HKZ.out; omega) (by rw [HTX.out]; exact bz) h1 hg)
      have hil2 : ids.length ≤ 1000000 := by omega
      clear hS2 hK2 g2 bz hz hf1 CX HNX
      go_wp2_with (at_builtin; refine wpList_pushR rt_id rfl _ _ rfl w0.heap.size _ ids rfl htv hbs3 28 z 1 _ rfl rfl hil2 ?_; intro v' w4 hO4 hg4 hat4)
      have HX := HN.out _ _ _ hO4 hg4
      go_roundw
      case rel => exact ⟨k + 1, at_, L2, cs, _, _, done, by omega, by go_num, rfl, HX⟩
      case measure => simp [intOf]; omega
  · have hkz : k = zs.length := by omega
    have HX : Hid (ClPost B w0 p mb most L RES ((xs.length + 1) * (14 * D + 2)) (.returned (.tuple #[u8, .nilIface])) wr) := by
     obtain ⟨n, hgr, hn⟩ := hr.gr
     have hres := hr.res
     rw [List.drop_of_length_le (by omega), btwQ, List.append_nil] at hres
     refine ⟨L', u8, cs, n, rfl, hr.st, hr.kp, hgr, ?_, hr.cv, by rw [← hres]; exact hr.ch⟩
     have : k * (14 * D + 2) ≤ (xs.length + 1) * (14 * D + 2) := Nat.mul_le_mul_right _ (by omega)
     omega
    clear hr hkz hk HR HZ HM HI HLV HB HZL
    go_wp2_with fail
    go_ret2
    exact HX.out
end Go.Proofs.YtgldjpldldknoaaGreatDoor
/- The walk of patch.Compose. -/
set_option linter.unusedSimpArgs false
set_option linter.unusedVariables false
namespace Go.Proofs.YtgldjpldldknoaaGreatDoor
open Go.RowKit
structure Pcs (MT : Nat) (L : List Ent) (w0 w : World) (v : Value) (xs : List Pm) (T : List (Int × Int)) (N : Nat) : Prop where
 own : w.ownsRow w0.heap.size 90 3 v xs.length (xs.flatMap Pm.vals)
 fr : Fr0 w0 w
 flat : flatP (txt L) xs = T
 ok : ∀ x ∈ xs, POk MT L x ∧ (x.text ≠ 0 → 0 < x.n)
 cnt : xs.length ≤ N
theorem Pcs.kept0 {MT : Nat} {L : List Ent} {w0 w w' : World} {v : Value} {xs : List Pm} {T : List (Int × Int)} {N : Nat} (h : Pcs MT L w0 w v xs T N) (hf : Fr0 w w') : Pcs MT L w0 w' v xs T N := ⟨hf.owns h.own, h.fr.trans hf, h.flat, h.ok, h.cnt⟩
theorem Pcs.one (MT : Nat) (L : List Ent) {w0 w : World} (hf : Fr0 w0 w) (n : Nat) (hn : (n : Int) ≤ 1152921504606846976) : Pcs MT L w0 (w.alloc (.cells #[.int .i64 0, .int .i64 0, .int .i64 (n : Int)] 90 (0, 0))) (.slice (some ⟨w.heap.size, 0, none⟩) 1 1) [⟨0, 0, (n : Int)⟩] (runC 0 n) 1 := by
 refine ⟨⟨rfl, .inr ⟨_, 1, _, rfl, hf.size, alloc_at _ _ _ rfl, Nat.le_refl _, by unfold maxLen; omega, rfl, rfl⟩⟩, hf.alloc _, ?_, ?_, Nat.le_refl _⟩
 · show clP _ _ ++ [] = _
   unfold clP
   rw [if_pos rfl, List.append_nil]
   rfl
 · intro x hx
   simp only [List.mem_singleton] at hx
   subst hx
   exact ⟨⟨by show (0 : Int) ≤ 0; omega, by show (0 : Int) ≤ n; omega, by show 0 + (n : Int) ≤ _; omega, fun h => absurd rfl h⟩, fun h => absurd rfl h⟩
theorem Pcs.slice {MT : Nat} {L : List Ent} {w0 w : World} {v : Value} {xs : List Pm} {T : List (Int × Int)} {N : Nat} (h : Pcs MT L w0 w v xs T N) (B : Nat) : ∃ a cap, v = .slice a xs.length cap ∧ RG Pm.vals 3 B w a xs ∧ (∀ ad, a = some ad → ad.block < w.heap.size) ∧ xs.length ≤ cap ∧ cap ≤ 9223372036854775807 := by
 obtain ⟨a, cap, rfl, hrg⟩ := rg_of_own (vals := Pm.vals) (size := 3) (B := B) (fun _ _ => rfl) h.own (by decide) (by decide)
 refine ⟨a, cap, rfl, hrg, ?_, ?_⟩
 · rintro ad rfl
   exact (h.own.lt ad.block rfl).2
 · rcases h.own.2 with ⟨e1, e2⟩ | ⟨g, c, cur, e1, _, _, e2, e3, _⟩
   · simp only [Value.slice.injEq] at e1
     omega
   · simp only [Value.slice.injEq] at e1
     unfold maxLen at e3
     omega
theorem Pcs.replaced {MT : Nat} {L : List Ent} {w0 w w' : World} {G : List (Int × Int)} {v : Value} {ys : List Pm} {N : Nat} (hf : Fr0 w0 w) (h1 : Fr0 w w') (h2 : w'.ownsRow w.heap.size 90 3 v ys.length (ys.flatMap Pm.vals)) (h3 : flatP (txt L) ys = G) (h4 : ∀ y ∈ ys, POk MT L y ∧ 0 < y.n) (h5 : ys.length ≤ N) : Pcs MT L w0 w' v ys G N :=
 ⟨owns_low h2 (Fr.size hf), hf.trans h1, h3, fun x hx => ⟨(h4 x hx).1, fun _ => (h4 x hx).2⟩, h5⟩
theorem pat_replaceP {B : Nat} {w0 w : World} {p mb : Nat} {most : Int} {MT : Nat} {L : List Ent} (hS : Sto B w p mb most L) (hO : SOk L) (hD : DOk L) {v : Value} {xs : List Pm} {T : List (Int × Int)} {N : Nat} (hP : Pcs MT L w0 w v xs T N) (hTl : (T.length : Int) ≤ 1152921504606846976) {cs : List Chg} {ps : List PC} {pa : Option Addr} {pcap : Nat} (hC : RG Chg.vals 3 B w pa cs) (hPC : PChg L cs ps) (hv : validP T.length (-1) ps = true) (hN : N + 3 * ps.length + 10 ≤ 800000) (hMT : ∀ c ∈ ps, c.text.length ≤ MT) :
    Calls Tryz.prog 31 #[.pointer (some ⟨p, 0, none⟩), v, .slice pa cs.length pcap] w (fun e w' => ∃ v' ys, e = .returned (.tuple #[v', .nilIface]) ∧ Fr0 w w' ∧ Pcs MT L w0 w' v' ys (patG embC T 0 ps) (N + 3 * ps.length + 1) ∧ ∀ y ∈ ys, 0 < y.n) := by
 obtain ⟨a, cap, rfl, h1, h2, h3, h4⟩ := hP.slice B
 have hc := hP.cnt
 refine (pat_replace hS hO hD h1 h2 (fun x hx => (hP.ok x hx).1) h3 h4 hP.flat hTl hC hPC hv (by omega) hMT).mono ?_
 rintro e w' ⟨v', ys, rfl, q1, q2, q3, q4, q5⟩
 exact ⟨v', ys, rfl, q1, Pcs.replaced hP.fr q1 q2 q3 q4 (by omega), fun y hy => (q4 y hy).2⟩
def CpL (MT : Nat) (L : List Ent) (w wr : World) (T0 T1 T2 : List (Int × Int)) (N1 N2 : Nat) (v : Value) (k : Nat) : Prop :=
 ∃ xs, (k = 0 ∧ Pcs MT L w wr v xs T0 1) ∨ (k = 1 ∧ Pcs MT L w wr v xs T1 N1) ∨ (k = 2 ∧ Pcs MT L w wr v xs T2 N2 ∧ ∀ y ∈ xs, 0 < y.n)
set_option maxRecDepth 100000 in
set_option maxHeartbeats 4000000 in
theorem pat_Compose_ok {B : Nat} {w : World} {p mb : Nat} {most : Int} {L : List Ent} (MT D n : Nat) {ps qs : List PC} {cs ds : List Chg} {pa qa : Option Addr} {pcap qcap : Nat} (hR : Room B w p mb most L ((3 * ps.length + 3 * qs.length + 4) * (14 * D + 2))) (hn : (n : Int) ≤ 1152921504606846976)
    (hC : RG Chg.vals 3 B w pa cs) (hP : PChg L cs ps) (hC' : RG Chg.vals 3 B w qa ds) (hP' : PChg L ds qs) (hl : 3 * ps.length + 3 * qs.length + 20 ≤ 400000)
    (hv : validP n (-1) ps = true) (hT1 : ((patG embC (runC 0 n) 0 ps).length : Int) ≤ 1152921504606846976) (hv' : validP (patG embC (runC 0 n) 0 ps).length (-1) qs = true) (hT2 : ((patG embC (patG embC (runC 0 n) 0 ps) 0 qs).length : Int) ≤ 1152921504606846976)
    (hM : ∀ c ∈ ps, c.text.length ≤ MT) (hM' : ∀ c ∈ qs, c.text.length ≤ MT) (hMD : MT < lst (D + 1)) {RES : List PC} (hRES : btw n 0 [] (patG embC (patG embC (runC 0 n) 0 ps) 0 qs) = RES) (hI : insP RES < lst (D + 1)) (hI2 : insP RES ≤ 100000000) :
    Calls Tryz.prog 14 #[.pointer (some ⟨p, 0, none⟩), .int .i64 n, .slice pa cs.length pcap, .slice qa ds.length qcap] w (ClPost B w p mb most L RES ((3 * ps.length + 3 * qs.length + 4) * (14 * D + 2))) := by
 have hrl : (runC 0 n).length = n := runC_len 0 n
 have hcl := hP.len
 have hcl' := hP'.len
 generalize hT1e : patG embC (runC 0 n) 0 ps = T1 at *
 generalize hT2e : patG embC T1 0 qs = T2 at *
 have hv2 : validP (runC 0 n).length (-1) ps = true := by rw [hrl]; exact hv
 have l1 : (T1.length : Int) = n - delP ps + insP ps := by
  have := patG_len embC (runC 0 n) ps 0 (-1) hv2 (by omega) (by omega) (by omega)
  rw [hT1e, hrl] at this
  omega
 have l2 : (T2.length : Int) = T1.length - delP qs + insP qs := by
  have := patG_len embC T1 qs 0 (-1) hv' (by omega) (by omega) (by omega)
  rw [hT2e] at this
  omega
 have hfm := hP.valid hR.dok hR.sok (length := n) (-1)
 rw [hv] at hfm
 have hfm' := hP'.valid hR.dok hR.sok (length := T1.length) (-1)
 rw [hv'] at hfm'
 have CL1 := Lib.hid (fun W (hW : Fr0 w W) => by
  obtain ⟨sv, hS, _⟩ := hR.st
  have := pat_Length_ok (hS.kept0 hW) hR.sok n (by omega) (by omega) pa pcap cs ((chgs_of_rg hC).kept0 hW) (by omega) hP.known hfm (by rw [hP.del, hP.ins hR.dok hR.sok]; omega)
  rw [hP.del, hP.ins hR.dok hR.sok, ← l1] at this
  exact this)
 have CL2 := Lib.hid (fun W (hW : Fr0 w W) => by
  obtain ⟨sv, hS, _⟩ := hR.st
  exact pat_Length_ok (hS.kept0 hW) hR.sok T1.length (by omega) (by omega) qa qcap ds ((chgs_of_rg hC').kept0 hW) (by omega) hP'.known hfm' (by rw [hP'.del, hP'.ins hR.dok hR.sok]; omega))
 have CR1 := Lib.hid (fun W (hW : Fr0 w W) v (xs : List Pm) (h : Pcs MT L w W v xs (runC 0 n) 1) => pat_replaceP (pcap := pcap) (hR.st.kept0 hW) hR.sok hR.dok h (by rw [hrl]; exact hn) (hC.kept0 hW) hP hv2 (by omega) hM)
 rw [hT1e] at CR1
 have CR2 := Lib.hid (fun W (hW : Fr0 w W) v (xs : List Pm) (h : Pcs MT L w W v xs T1 (1 + 3 * ps.length + 1)) => pat_replaceP (pcap := qcap) (hR.st.kept0 hW) hR.sok hR.dok h hT1 (hC'.kept0 hW) hP' hv' (by omega) hM')
 rw [hT2e] at CR2
 have CC := Lib.hid (fun W (hW : Fr0 w W) v (xs : List Pm) (h : Pcs MT L w W v xs T2 (1 + 3 * ps.length + 1 + 3 * qs.length + 1)) (hpos : ∀ y ∈ xs, 0 < y.n) => pat_collect (MT := MT) D (len := n) ((hR.kept0 hW).less (Nat.mul_le_mul_right _ (by have := h.cnt; omega))) hR.base (Kp.of0 hW) v h.own h.ok (by omega) hn hMD (RES := RES) (by rw [btwP_flat MT L n xs 0 [] (fun x hx => ⟨(h.ok x hx).1, hpos x hx⟩), h.flat]; exact hRES) hI hI2 (by have := h.cnt; omega))
 have HW : Hid (∀ W, Fr0 w W → Pcs MT L w (W.alloc (.cells #[.int .i64 0, .int .i64 0, .int .i64 (n : Int)] 90 (0, 0))) (.slice (some ⟨W.heap.size, 0, none⟩) 1 1) [⟨0, 0, (n : Int)⟩] (runC 0 n) 1) := fun W hW => Pcs.one MT L hW n hn
 have HCL : Hid (∀ e w' (xs : List Pm), xs.length ≤ 1 + 3 * ps.length + 1 + 3 * qs.length + 1 → ClPost B w p mb most L RES ((xs.length + 1) * (14 * D + 2)) e w' → ClPost B w p mb most L RES ((3 * ps.length + 3 * qs.length + 4) * (14 * D + 2)) e w') := by
  rintro e w' xs hx ⟨L', v, cs, k, h1, h2, h3, h4, h5, h6⟩
  exact ⟨L', v, cs, k, h1, h2, h3, h4, Nat.le_trans h5 (Nat.mul_le_mul_right _ (by omega)), h6⟩
 clear hR hC hP hC' hP' hl hv hv' hT2 hM hM' hMD hRES hI hI2 hrl hcl hcl' hv2 l2 hfm hfm' hT1e hT2e
 go_enter Tryz.func14, Tryz.ntmps14
 go_wp2_with fail
 refine (CL1.out _ (Fr0.refl _)).mono ?_
 rintro e w1 ⟨rfl, f1⟩
 generalize (T1.length : Int) = m1 at *
 generalize m1 - sumN ds + sumT (lnL L) ds = m2 at *
 clear hT1 l1 CL1
 go_wp2_with fail
 refine (CL2.out _ f1).mono ?_
 rintro e w2 ⟨rfl, f2⟩
 have F2 := f1.trans f2
 have hp1 := HW.out _ F2
 clear f1 f2 CL2 HW
 have hb1 : ((w2.alloc (.cells #[.int .i64 0, .int .i64 0, .int .i64 (n : Int)] 90 (0, 0))).alloc (.cells #[.slice pa cs.length pcap, .slice qa ds.length qcap] 29 (0, 0))).heap[w2.heap.size + 1]? = some (.cells #[.slice pa cs.length pcap, .slice qa ds.length qcap] 29 (0, 0)) := alloc_at _ _ _ (by simp)
 have FA : Fr0 w ((w2.alloc (.cells #[.int .i64 0, .int .i64 0, .int .i64 (n : Int)] 90 (0, 0))).alloc (.cells #[.slice pa cs.length pcap, .slice qa ds.length qcap] 29 (0, 0))) := (F2.alloc _).alloc _
 have H0 : Hid (CpL MT L w ((w2.alloc (.cells #[.int .i64 0, .int .i64 0, .int .i64 (n : Int)] 90 (0, 0))).alloc (.cells #[.slice pa cs.length pcap, .slice qa ds.length qcap] 29 (0, 0))) (runC 0 n) T1 T2 (1 + 3 * ps.length + 1) (1 + 3 * ps.length + 1 + 3 * qs.length + 1) (.slice (some ⟨w2.heap.size, 0, none⟩) 1 1) 0) := ⟨_, .inl ⟨rfl, hp1.kept0 ((Fr0.refl _).alloc _)⟩⟩
 clear hp1 F2
 go_wp2_with fail
 generalize hWA : (w2.alloc (.cells #[.int .i64 0, .int .i64 0, .int .i64 (n : Int)] 90 (0, 0))).alloc (.cells #[.slice pa cs.length pcap, .slice qa ds.length qcap] 29 (0, 0)) = WA at *
 clear hWA
 go_loopw [14, 44] (fun v i wr => ∃ (k : Nat), k ≤ 2 ∧ i = .int .i64 k ∧ Fr0 WA wr ∧ CpL MT L w wr (runC 0 n) T1 T2 (1 + 3 * ps.length + 1) (1 + 3 * ps.length + 1 + 3 * qs.length + 1) v k) (fun _ i _ => 2 - (intOf i).toNat)
 case atStart => exact ⟨0, by omega, rfl, Fr0.refl _, H0.out⟩
 case round =>
  clear H0
  obtain ⟨k, hk, rfl, hf, xs, hr⟩ := hrel
  have hbr := hf.kept hb1
  have z0 : wr.cell? ⟨w2.heap.size + 1, 0, none⟩ = some (.slice pa cs.length pcap) := by rw [cell_of_block hbr]; rfl
  have z1 : wr.cell? ⟨w2.heap.size + 1, 1, none⟩ = some (.slice qa ds.length qcap) := by rw [cell_of_block hbr]; rfl
  have lz := lt_of_block hbr
  have HFR := Lib.hid (FA.trans hf)
  have HF := Lib.hid hf
  clear hb1 hbr FA hf
  rcases hr with ⟨rfl, hr⟩ | ⟨rfl, hr⟩ | ⟨rfl, hr, hpos⟩
  · have CX := Lib.hid (CR1.out wr HFR.out u14 xs hr)
    clear hr CR1 CR2 CC hk
    go_wp2_with fail
    refine CX.out.mono ?_
    rintro e w3 ⟨v', ys, rfl, q1, q2, q3⟩
    have HX : Hid (Fr0 WA w3 ∧ CpL MT L w w3 (runC 0 n) T1 T2 (1 + 3 * ps.length + 1) (1 + 3 * ps.length + 1 + 3 * qs.length + 1) v' 1) := ⟨HF.out.trans q1, ys, .inr (.inl ⟨rfl, q2⟩)⟩
    clear q1 q2 q3 CX
    go_wp2_with fail
    go_roundw
    case rel => exact ⟨1, by omega, by first | rfl | go_num, HX.out.1, HX.out.2⟩
    case measure => simp [intOf]
  · have CX := Lib.hid (CR2.out wr HFR.out u14 xs hr)
    clear hr CR1 CR2 CC hk
    go_wp2_with fail
    refine CX.out.mono ?_
    rintro e w3 ⟨v', ys, rfl, q1, q2, q3⟩
    have HX : Hid (Fr0 WA w3 ∧ CpL MT L w w3 (runC 0 n) T1 T2 (1 + 3 * ps.length + 1) (1 + 3 * ps.length + 1 + 3 * qs.length + 1) v' 2) := ⟨HF.out.trans q1, ys, .inr (.inr ⟨rfl, q2, q3⟩)⟩
    clear q1 q2 q3 CX
    go_wp2_with fail
    go_roundw
    case rel => exact ⟨2, by omega, by first | rfl | go_num, HX.out.1, HX.out.2⟩
    case measure => simp [intOf]
  · have CX := Lib.hid (CC.out wr HFR.out u14 xs hr hpos)
    have HN := Lib.hid (fun e w' => HCL.out e w' xs hr.cnt)
    clear hr CR1 CR2 CC hk hpos HCL
    go_wp2_with fail
    refine CX.out.mono ?_
    rintro e w3 hx
    have hx2 := HN.out _ _ hx
    obtain ⟨L', v', cs', k', rfl, hrest⟩ := hx2
    have HX := Lib.hid hrest
    clear hrest hx CX HN
    go_wp2_with fail
    go_ret2
    exact ⟨L', v', cs', k', rfl, HX.out⟩
end Go.Proofs.YtgldjpldldknoaaGreatDoor

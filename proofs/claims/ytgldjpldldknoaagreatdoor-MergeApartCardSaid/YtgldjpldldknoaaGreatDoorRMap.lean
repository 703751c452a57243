/- The map of a store: rules as keys. -/
import Derived.Test.YtgldjpldldknoaaGreatDoorChecked
import Derived.Test.YtgldjpldldknoaaGreatDoorRBase
import Derived.Laws.StructEq
set_option linter.unusedSimpArgs false
set_option linter.unusedVariables false
namespace Go.Proofs.YtgldjpldldknoaaGreatDoor
open Go.RowKit
@[reducible] def Rl.V (r : Rl) : Value := .agg #[.int .i64 r.kind, .int .u8 r.letter, .int .i64 r.left, .int .i64 r.right, .int .i64 r.times]
def entriesFrom : Nat → List Ent → List MapEntry
 | _, [] => []
 | i, e :: r => { key := e.rule.V, val := .int .i64 ((i : Int) + 1), born := i } :: entriesFrom (i + 1) r
theorem Rl.eq_iff (a b : Rl) : decide (a = b) = (a.kind == b.kind && (a.letter == b.letter && (a.left == b.left && (a.right == b.right && a.times == b.times)))) := by
 cases a; cases b
 rw [Bool.eq_iff_iff]
 simp
theorem rule_equal (a b : Rl) (w : World) : (Op.equal 82 a.V b.V).run Tryz.prog w = .ok (decide (a = b)) w := by
 rw [Rl.eq_iff]
 simp [Op.equal, Op.maxDepth, go_sem]
 repeat' split
 all_goals simp_all
theorem rule_check_at (em : Bool) (d : Nat) (a : Rl) (w : World) : (Instr.checkKey em (d + 1 + 1) 82 a.V).run Tryz.prog w = .ok () w := by
 simp [Instr.checkKey, go_sem]
theorem rule_check (em : Bool) (a : Rl) (w : World) : (Instr.checkKey em 10000 82 a.V).run Tryz.prog w = .ok () w := rule_check_at em 9998 a w
theorem run_findAsking (r : Rl) (w : World) : ∀ (L : List Ent) (i : Nat),
    (Instr.findAsking 82 r.V (entriesFrom i L) i).run Tryz.prog w = .ok ((L.findIdx? (fun e => decide (r = e.rule))).map fun j => (i + j, Value.int .i64 (((i + j : Nat) : Int) + 1))) w := by
 intro L
 induction L with
 | nil => intro i; rfl
 | cons e rest ih =>
  intro i
  simp only [entriesFrom, Instr.findAsking, Sem.run_bind, rule_equal, Result.andThen_ok, List.findIdx?_cons]
  by_cases h : r = e.rule
  · simp [h]
  · simp only [h, decide_false, Bool.false_eq_true, if_false, ih (i + 1)]
    congr 1
    cases L' : rest.findIdx? (fun e => decide (r = e.rule)) with
    | none => rfl
    | some j =>
     simp only [Option.map_some]
     rw [show i + 1 + j = i + (j + 1) by omega]
theorem run_findKey (r : Rl) (w : World) (L : List Ent) :
    (Instr.findKey 82 r.V (entriesFrom 0 L)).run Tryz.prog w = .ok ((L.findIdx? (fun e => decide (r = e.rule))).map fun j => (j, Value.int .i64 ((j : Int) + 1))) w := by
 have h := run_findAsking r w L 0
 simp only [Nat.zero_add] at h
 cases L with
 | nil => simp [Instr.findKey, entriesFrom, Instr.findNow, go_sem]
 | cons e rest =>
  simp [Instr.findKey, entriesFrom, Instr.findNow, Instr.sameNow, go_sem] at h ⊢
  exact h
def ruleIdx (r : Rl) (L : List Ent) : Option Nat := L.findIdx? (fun e => decide (r = e.rule))
theorem run_lookup_some {mb : Nat} {L : List Ent} {c : Nat} (r : Rl) (j : Nat) (w : World) (hm : w.heap[mb]? = some (.map (entriesFrom 0 L).toArray c)) (hj : ruleIdx r L = some j) :
    (Instr.lookup 97 (.map (some mb)) r.V true).run Tryz.prog w = .ok (.tuple #[.int .i64 ((j : Int) + 1), .bool true]) w := by
 unfold ruleIdx at hj
 have h1 := run_findKey r w L
 rw [hj] at h1
 simp [Instr.lookup, go_sem, getObj, Sem.run, hm, rule_check, h1]
theorem run_lookup_none {mb : Nat} {L : List Ent} {c : Nat} (r : Rl) (w : World) (hm : w.heap[mb]? = some (.map (entriesFrom 0 L).toArray c)) (hj : ruleIdx r L = none) :
    (Instr.lookup 97 (.map (some mb)) r.V true).run Tryz.prog w = .ok (.tuple #[.int .i64 0, .bool false]) w := by
 unfold ruleIdx at hj
 have h1 := run_findKey r w L
 rw [hj] at h1
 simp [Instr.lookup, go_sem, getObj, Sem.run, hm, rule_check, h1]
theorem entries_push (e : Ent) : ∀ (L : List Ent) (i : Nat), entriesFrom i (L ++ [e]) = entriesFrom i L ++ [{ key := e.rule.V, val := .int .i64 (((i + L.length : Nat) : Int) + 1), born := i + L.length }] := by
 intro L
 induction L with
 | nil => intro i; simp [entriesFrom]
 | cons x r ih =>
  intro i
  simp only [List.cons_append, entriesFrom, ih (i + 1), List.length_cons]
  rw [show i + 1 + r.length = i + (r.length + 1) by omega]
theorem run_update {mb : Nat} {L : List Ent} (e : Ent) (w : World) (hm : w.heap[mb]? = some (.map (entriesFrom 0 L).toArray L.length)) (hj : ruleIdx e.rule L = none) (n : Int) (hn : n = (L.length : Int) + 1) :
    (Instr.mapUpdate 97 (.map (some mb)) e.rule.V (.int .i64 n)).run Tryz.prog w = .ok () { w with heap := w.heap.setIfInBounds mb (.map (entriesFrom 0 (L ++ [e])).toArray (L ++ [e]).length) } := by
 unfold ruleIdx at hj
 have h1 := run_findKey e.rule w L
 rw [hj] at h1
 subst hn
 rw [entries_push]
 simp [Instr.mapUpdate, go_sem, getObj, setObj, Sem.run, hm, rule_check, h1]
end Go.Proofs.YtgldjpldldknoaaGreatDoor
/- Plain words: the entries that a store adds, and what holds of all entries. No program. -/
set_option linter.unusedSimpArgs false
set_option linter.unusedVariables false
namespace Go.Proofs.YtgldjpldldknoaaGreatDoor
open Go.RowKit
def entAt (L : List Ent) (id : Int) : Ent := if id = 0 then ⟨⟨0, 0, 0, 0, 0⟩, Wt.unit, 0, true⟩ else L.getD (id - 1).toNat ⟨⟨0, 0, 0, 0, 0⟩, Wt.unit, 0, true⟩
def isKnown (L : List Ent) (id : Int) : Prop := 0 ≤ id ∧ id ≤ L.length
theorem entAt_succ (L : List Ent) (k : Nat) (h : k < L.length) : entAt L ((k : Int) + 1) = L[k] := by
 unfold entAt
 rw [if_neg (by omega), show ((k : Int) + 1 - 1).toNat = k by omega, List.getD_eq_getElem?_getD, List.getElem?_eq_getElem h]
 rfl
theorem entAt_append (L M : List Ent) (id : Int) (h : isKnown L id) : entAt (L ++ M) id = entAt L id := by
 unfold entAt
 by_cases h0 : id = 0
 · simp [h0]
 · rw [if_neg h0, if_neg h0]
   obtain ⟨h1, h2⟩ := h
   rw [List.getD_eq_getElem?_getD, List.getD_eq_getElem?_getD, List.getElem?_append_left (by omega)]
theorem isKnown_append {L : List Ent} {id : Int} (M : List Ent) (h : isKnown L id) : isKnown (L ++ M) id := ⟨h.1, by have := h.2; simp; omega⟩
def addL (L : List Ent) (e : Ent) : List Ent := match ruleIdx e.rule L with | some _ => L | none => L ++ [e]
def addI (L : List Ent) (e : Ent) : Int := match ruleIdx e.rule L with | some j => (j : Int) + 1 | none => (L.length : Int) + 1
theorem addL_some {L : List Ent} {e : Ent} {j : Nat} (h : ruleIdx e.rule L = some j) : addL L e = L := by simp [addL, h]
theorem addL_none {L : List Ent} {e : Ent} (h : ruleIdx e.rule L = none) : addL L e = L ++ [e] := by simp [addL, h]
theorem addI_some {L : List Ent} {e : Ent} {j : Nat} (h : ruleIdx e.rule L = some j) : addI L e = (j : Int) + 1 := by simp [addI, h]
theorem addI_none {L : List Ent} {e : Ent} (h : ruleIdx e.rule L = none) : addI L e = (L.length : Int) + 1 := by simp [addI, h]
theorem ruleIdx_lt {r : Rl} {L : List Ent} {j : Nat} (h : ruleIdx r L = some j) : ∃ hj : j < L.length, L[j].rule = r := by
 unfold ruleIdx at h
 obtain ⟨hj, h1, _⟩ := List.findIdx?_eq_some_iff_getElem.1 h
 exact ⟨hj, (by simpa using h1 : r = L[j].rule).symm⟩
def letterEnt (b : Int) : Ent := ⟨⟨1, b, 0, 0, 0⟩, Wt.letter b, 0, true⟩
def pairEnt (L : List Ent) (l r : Int) : Ent :=
 ⟨⟨2, 0, l, r, 0⟩, (entAt L l).wt.join (entAt L r).wt, 1 + max (entAt L l).depth (entAt L r).depth,
  (entAt L l).even && (entAt L r).even && decide (-1 ≤ (entAt L l).depth - (entAt L r).depth) && decide ((entAt L l).depth - (entAt L r).depth ≤ 1)⟩
def powEnt (L : List Ent) (x k : Int) : Ent := ⟨⟨3, 0, x, 0, k⟩, (entAt L x).wt.rep k, 1 + (entAt L x).depth, false⟩
def SOk (L : List Ent) : Prop := ∀ (i : Nat) (h : i < L.length), WOk L[i].wt ∧ 1 ≤ L[i].wt.len ∧ 0 ≤ L[i].depth ∧ L[i].depth ≤ i
theorem SOk.nil : SOk [] := fun i h => by simp at h
theorem SOk.at {L : List Ent} (h : SOk L) (id : Int) (hk : isKnown L id) : WOk (entAt L id).wt ∧ 0 ≤ (entAt L id).depth ∧ (entAt L id).depth ≤ L.length ∧ (id ≠ 0 → 1 ≤ (entAt L id).wt.len ∧ (entAt L id).depth + 1 ≤ L.length) := by
 by_cases h0 : id = 0
 · subst h0
   exact ⟨WOk.unit, Int.le_refl _, by show (0 : Int) ≤ _; omega, fun h => absurd rfl h⟩
 · obtain ⟨k, rfl⟩ : ∃ k : Nat, id = (k : Int) + 1 := ⟨(id - 1).toNat, by have := hk.1; omega⟩
   have hlt : k < L.length := by have := hk.2; omega
   rw [entAt_succ L k hlt]
   obtain ⟨h1, h2, h3, h4⟩ := h k hlt
   exact ⟨h1, h3, by omega, fun _ => ⟨h2, by omega⟩⟩
theorem SOk.push {L : List Ent} (h : SOk L) (e : Ent) (h1 : WOk e.wt) (h2 : 1 ≤ e.wt.len) (h3 : 0 ≤ e.depth) (h4 : e.depth ≤ L.length) : SOk (L ++ [e]) := by
 intro i hi
 rcases Nat.lt_or_ge i L.length with hlt | hge
 · rw [List.getElem_append_left hlt]; exact h i hlt
 · have : i = L.length := by simp at hi; omega
   subst this
   rw [List.getElem_append_right (Nat.le_refl _)]
   simp
   exact ⟨h1, h2, h3, h4⟩
theorem SOk.add {L : List Ent} (h : SOk L) (e : Ent) (h1 : WOk e.wt) (h2 : 1 ≤ e.wt.len) (h3 : 0 ≤ e.depth) (h4 : e.depth ≤ L.length) : SOk (addL L e) := by
 cases hj : ruleIdx e.rule L with
 | some j => rw [addL_some hj]; exact h
 | none => rw [addL_none hj]; exact h.push e h1 h2 h3 h4
theorem SOk.letter {L : List Ent} (h : SOk L) (b : Int) (h0 : 0 ≤ b) (h1 : b < 256) : SOk (addL L (letterEnt b)) :=
 h.add _ (WOk.letter b h0 h1) (by show 1 ≤ (Wt.letter b).len; unfold Wt.letter; split <;> simp) (Int.le_refl _) (by show (0 : Int) ≤ _; omega)
theorem SOk.pair {L : List Ent} (h : SOk L) (l r : Int) (hl : isKnown L l) (hr : isKnown L r) (l0 : l ≠ 0) (r0 : r ≠ 0) (hm : (entAt L l).wt.len + (entAt L r).wt.len ≤ 1152921504606846976) : SOk (addL L (pairEnt L l r)) := by
 obtain ⟨a1, a2, a3, a4⟩ := h.at l hl
 obtain ⟨b1, b2, b3, b4⟩ := h.at r hr
 have := a4 l0
 have := b4 r0
 refine h.add _ (WOk.join a1 b1 hm) ?_ ?_ ?_
 · show 1 ≤ (entAt L l).wt.len + (entAt L r).wt.len; omega
 · show 0 ≤ 1 + max (entAt L l).depth (entAt L r).depth; omega
 · show 1 + max (entAt L l).depth (entAt L r).depth ≤ _; omega
theorem SOk.pow {L : List Ent} (h : SOk L) (x k : Int) (hx : isKnown L x) (x0 : x ≠ 0) (hk : 2 ≤ k) (hm : (entAt L x).wt.len * k ≤ 1152921504606846976) : SOk (addL L (powEnt L x k)) := by
 obtain ⟨a1, a2, a3, a4⟩ := h.at x hx
 have := a4 x0
 refine h.add _ (WOk.rep a1 k (by omega) hm this.1) ?_ ?_ ?_
 · show 1 ≤ (entAt L x).wt.len * k
   have := Int.mul_le_mul_of_nonneg_left (show (1 : Int) ≤ k by omega) (show 0 ≤ (entAt L x).wt.len by omega)
   omega
 · show 0 ≤ 1 + (entAt L x).depth; omega
 · show 1 + (entAt L x).depth ≤ _; omega
theorem addL_len (L : List Ent) (e : Ent) : L.length ≤ (addL L e).length ∧ (addL L e).length ≤ L.length + 1 := by
 cases hj : ruleIdx e.rule L with
 | some j => rw [addL_some hj]; omega
 | none => rw [addL_none hj]; simp
theorem addL_ext (L : List Ent) (e : Ent) : ∃ M, addL L e = L ++ M := by
 cases hj : ruleIdx e.rule L with
 | some j => exact ⟨[], by rw [addL_some hj]; simp⟩
 | none => exact ⟨[e], addL_none hj⟩
theorem addI_known (L : List Ent) (e : Ent) : isKnown (addL L e) (addI L e) ∧ addI L e ≠ 0 := by
 cases hj : ruleIdx e.rule L with
 | some j =>
  obtain ⟨h1, _⟩ := ruleIdx_lt hj
  rw [addL_some hj, addI_some hj]
  exact ⟨⟨by omega, by omega⟩, by omega⟩
 | none =>
  rw [addL_none hj, addI_none hj]
  exact ⟨⟨by omega, by simp⟩, by omega⟩
end Go.Proofs.YtgldjpldldknoaaGreatDoor
/- Plain words: the rules of a text, by halves. No program. -/
set_option linter.unusedSimpArgs false
set_option linter.unusedVariables false
namespace Go.Proofs.YtgldjpldldknoaaGreatDoor
open Go.RowKit
def DOk (L : List Ent) : Prop := ∀ (i : Nat) (h : i < L.length),
 (L[i].rule.kind = 1 ∧ L[i] = letterEnt L[i].rule.letter) ∨
 (L[i].rule.kind = 2 ∧ (1 ≤ L[i].rule.left ∧ L[i].rule.left ≤ i ∧ 1 ≤ L[i].rule.right ∧ L[i].rule.right ≤ i) ∧ L[i] = pairEnt L L[i].rule.left L[i].rule.right) ∨
 (L[i].rule.kind = 3 ∧ (1 ≤ L[i].rule.left ∧ L[i].rule.left ≤ i) ∧ L[i] = powEnt L L[i].rule.left L[i].rule.times)
theorem DOk.nil : DOk [] := fun i h => by simp at h
theorem pairEnt_append (L M : List Ent) (l r : Int) (hl : isKnown L l) (hr : isKnown L r) : pairEnt (L ++ M) l r = pairEnt L l r := by
 unfold pairEnt; rw [entAt_append L M l hl, entAt_append L M r hr]
theorem powEnt_append (L M : List Ent) (x k : Int) (hx : isKnown L x) : powEnt (L ++ M) x k = powEnt L x k := by
 unfold powEnt; rw [entAt_append L M x hx]
theorem DOk.push {L : List Ent} (h : DOk L) (e : Ent)
    (he : (e.rule.kind = 1 ∧ e = letterEnt e.rule.letter) ∨ (e.rule.kind = 2 ∧ (1 ≤ e.rule.left ∧ e.rule.left ≤ L.length ∧ 1 ≤ e.rule.right ∧ e.rule.right ≤ L.length) ∧ e = pairEnt L e.rule.left e.rule.right) ∨
     (e.rule.kind = 3 ∧ (1 ≤ e.rule.left ∧ e.rule.left ≤ L.length) ∧ e = powEnt L e.rule.left e.rule.times)) : DOk (L ++ [e]) := by
 intro i hi
 rcases Nat.lt_or_ge i L.length with hlt | hge
 · rw [List.getElem_append_left hlt]
   rcases h i hlt with h1 | ⟨h1, h2, h3⟩ | ⟨h1, h2, h3⟩
   · exact .inl h1
   · refine .inr (.inl ⟨h1, h2, ?_⟩)
     rw [pairEnt_append _ _ _ _ ⟨by omega, by omega⟩ ⟨by omega, by omega⟩]; exact h3
   · refine .inr (.inr ⟨h1, h2, ?_⟩)
     rw [powEnt_append _ _ _ _ ⟨by omega, by omega⟩]; exact h3
 · have : i = L.length := by simp at hi; omega
   subst this
   have hg : (L ++ [e])[L.length] = e := by rw [List.getElem_append_right (Nat.le_refl _)]; simp
   rw [hg]
   rcases he with h1 | ⟨h1, h2, h3⟩ | ⟨h1, h2, h3⟩
   · exact .inl h1
   · refine .inr (.inl ⟨h1, h2, ?_⟩)
     rw [pairEnt_append _ _ _ _ ⟨by omega, by omega⟩ ⟨by omega, by omega⟩]; exact h3
   · refine .inr (.inr ⟨h1, h2, ?_⟩)
     rw [powEnt_append _ _ _ _ ⟨by omega, by omega⟩]; exact h3
theorem DOk.letter {L : List Ent} (h : DOk L) (b : Int) : DOk (addL L (letterEnt b)) := by
 cases hj : ruleIdx (letterEnt b).rule L with
 | some j => rw [addL_some hj]; exact h
 | none => rw [addL_none hj]; exact h.push _ (.inl ⟨rfl, rfl⟩)
theorem DOk.pair {L : List Ent} (h : DOk L) (l r : Int) (hl : isKnown L l) (hr : isKnown L r) (l0 : l ≠ 0) (r0 : r ≠ 0) : DOk (addL L (pairEnt L l r)) := by
 cases hj : ruleIdx (pairEnt L l r).rule L with
 | some j => rw [addL_some hj]; exact h
 | none =>
  rw [addL_none hj]
  obtain ⟨a, b⟩ := hl
  obtain ⟨c, d⟩ := hr
  exact h.push _ (.inr (.inl ⟨rfl, ⟨by show 1 ≤ l; omega, b, by show 1 ≤ r; omega, d⟩, rfl⟩))
theorem DOk.pow {L : List Ent} (h : DOk L) (x k : Int) (hx : isKnown L x) (x0 : x ≠ 0) : DOk (addL L (powEnt L x k)) := by
 cases hj : ruleIdx (powEnt L x k).rule L with
 | some j => rw [addL_some hj]; exact h
 | none =>
  rw [addL_none hj]
  obtain ⟨a, b⟩ := hx
  exact h.push _ (.inr (.inr ⟨rfl, ⟨by show 1 ≤ x; omega, b⟩, rfl⟩))
theorem entAt_last (L : List Ent) (e : Ent) : entAt (L ++ [e]) ((L.length : Int) + 1) = e := by
 rw [entAt_succ _ _ (by simp), List.getElem_append_right (Nat.le_refl _)]; simp
theorem ent_letter {L : List Ent} (h : DOk L) (b : Int) : entAt (addL L (letterEnt b)) (addI L (letterEnt b)) = letterEnt b := by
 cases hj : ruleIdx (letterEnt b).rule L with
 | some j =>
  rw [addL_some hj, addI_some hj]
  obtain ⟨h1, h2⟩ := ruleIdx_lt hj
  rw [entAt_succ _ _ h1]
  rcases h j h1 with ⟨_, h3⟩ | ⟨h3, _⟩ | ⟨h3, _⟩
  · rw [h2] at h3; exact h3
  · rw [h2] at h3; simp [letterEnt] at h3
  · rw [h2] at h3; simp [letterEnt] at h3
 | none => rw [addL_none hj, addI_none hj, entAt_last]
theorem ent_pair {L : List Ent} (h : DOk L) (l r : Int) : entAt (addL L (pairEnt L l r)) (addI L (pairEnt L l r)) = pairEnt L l r := by
 cases hj : ruleIdx (pairEnt L l r).rule L with
 | some j =>
  rw [addL_some hj, addI_some hj]
  obtain ⟨h1, h2⟩ := ruleIdx_lt hj
  rw [entAt_succ _ _ h1]
  rcases h j h1 with ⟨h3, _⟩ | ⟨_, _, h3⟩ | ⟨h3, _⟩
  · rw [h2] at h3; simp [pairEnt] at h3
  · rw [h2] at h3; exact h3
  · rw [h2] at h3; simp [pairEnt] at h3
 | none => rw [addL_none hj, addI_none hj, entAt_last]
theorem ent_pow {L : List Ent} (h : DOk L) (x k : Int) : entAt (addL L (powEnt L x k)) (addI L (powEnt L x k)) = powEnt L x k := by
 cases hj : ruleIdx (powEnt L x k).rule L with
 | some j =>
  rw [addL_some hj, addI_some hj]
  obtain ⟨h1, h2⟩ := ruleIdx_lt hj
  rw [entAt_succ _ _ h1]
  rcases h j h1 with ⟨h3, _⟩ | ⟨h3, _⟩ | ⟨_, _, h3⟩
  · rw [h2] at h3; simp [powEnt] at h3
  · rw [h2] at h3; simp [powEnt] at h3
  · rw [h2] at h3; exact h3
 | none => rw [addL_none hj, addI_none hj, entAt_last]
def clog (n : Nat) : Nat := Nat.log2 (2 * n - 1)
theorem log2_half (n : Nat) (h : 2 ≤ n) : Nat.log2 n = Nat.log2 (n / 2) + 1 := by rw [Nat.log2_def, if_pos h]
theorem log2_mono {a b : Nat} (ha : a ≠ 0) (h : a ≤ b) : Nat.log2 a ≤ Nat.log2 b :=
 (Nat.le_log2 (by omega)).2 (Nat.le_trans ((Nat.le_log2 ha).1 (Nat.le_refl _)) h)
theorem clog_step (n : Nat) (h : 2 ≤ n) : clog n = 1 + max (clog (n / 2)) (clog (n - n / 2)) ∧ clog (n / 2) ≤ clog (n - n / 2) ∧ clog (n - n / 2) ≤ clog (n / 2) + 1 := by
 have h1 : clog (n / 2) ≤ clog (n - n / 2) := log2_mono (by omega) (by omega)
 have h2 : clog n = 1 + clog (n - n / 2) := by
  unfold clog
  rw [log2_half (2 * n - 1) (by omega), Nat.add_comm]
  congr 1
  rcases Nat.mod_two_eq_zero_or_one n with e | e
  · congr 1; omega
  · have e1 : (2 * n - 1) / 2 = n - 1 := by omega
    have e2 : 2 * (n - n / 2) - 1 = n := by omega
    rw [e1, e2, log2_half n (by omega), log2_half (n - 1) (by omega)]
    congr 2
    omega
 have h3 : clog (n - n / 2) ≤ clog (n / 2) + 1 := by
  unfold clog
  have : Nat.log2 (2 * (n / 2) - 1) + 1 = Nat.log2 (2 * (2 * (n / 2) - 1) + 1) := by
   rw [log2_half (2 * (2 * (n / 2) - 1) + 1) (by omega)]
   congr 2
   omega
  rw [this]
  exact log2_mono (by omega) (by omega)
 exact ⟨by omega, h1, h3⟩
def textR : Nat → List Ent → List Int → List Ent × Int
 | 0, L, _ => (L, 0)
 | f + 1, L, bs =>
  if bs.length = 1 then (addL L (letterEnt (bs.getD 0 0)), addI L (letterEnt (bs.getD 0 0))) else
  (addL (textR f (textR f L (bs.take (bs.length / 2))).1 (bs.drop (bs.length / 2))).1 (pairEnt (textR f (textR f L (bs.take (bs.length / 2))).1 (bs.drop (bs.length / 2))).1 (textR f L (bs.take (bs.length / 2))).2 (textR f (textR f L (bs.take (bs.length / 2))).1 (bs.drop (bs.length / 2))).2),
   addI (textR f (textR f L (bs.take (bs.length / 2))).1 (bs.drop (bs.length / 2))).1 (pairEnt (textR f (textR f L (bs.take (bs.length / 2))).1 (bs.drop (bs.length / 2))).1 (textR f L (bs.take (bs.length / 2))).2 (textR f (textR f L (bs.take (bs.length / 2))).1 (bs.drop (bs.length / 2))).2))
structure TextOk (L L' : List Ent) (id : Int) (n : Nat) : Prop where
 ext : ∃ M, L' = L ++ M
 len : L'.length + 1 ≤ L.length + 2 * n
 sok : SOk L'
 dok : DOk L'
 known : isKnown L' id
 ne : id ≠ 0
 wlen : (entAt L' id).wt.len = n
 even : (entAt L' id).even = true
 depth : (entAt L' id).depth = clog n
theorem letter_len (b : Int) : (Wt.letter b).len = 1 := by unfold Wt.letter; split <;> rfl
theorem TextOk.one {L : List Ent} (h : SOk L) (d : DOk L) (b : Int) (h0 : 0 ≤ b) (h1 : b < 256) : TextOk L (addL L (letterEnt b)) (addI L (letterEnt b)) 1 where
 ext := addL_ext L _
 len := by have := (addL_len L (letterEnt b)).2; omega
 sok := h.letter b h0 h1
 dok := d.letter b
 known := (addI_known L _).1
 ne := (addI_known L _).2
 wlen := by rw [ent_letter d]; exact letter_len b
 even := by rw [ent_letter d]; rfl
 depth := by rw [ent_letter d]; rfl
theorem TextOk.two {L A B : List Ent} {a b : Int} {n : Nat} (hn : 2 ≤ n) (hm : n ≤ 65536) (ha : TextOk L A a (n / 2)) (hb : TextOk A B b (n - n / 2)) : TextOk L (addL B (pairEnt B a b)) (addI B (pairEnt B a b)) n := by
 obtain ⟨M1, e1⟩ := ha.ext
 obtain ⟨M2, e2⟩ := hb.ext
 have ka : isKnown B a := by rw [e2]; exact isKnown_append M2 ha.known
 have ea : entAt B a = entAt A a := by rw [e2]; exact entAt_append A M2 a ha.known
 obtain ⟨c1, c2, c3⟩ := clog_step n hn
 have w1 := ha.wlen
 have w2 := hb.wlen
 have hlen : (entAt B a).wt.len + (entAt B b).wt.len ≤ 1152921504606846976 := by rw [ea, w1, w2]; omega
 refine ⟨?_, ?_, hb.sok.pair a b ka hb.known ha.ne hb.ne hlen, hb.dok.pair a b ka hb.known ha.ne hb.ne, (addI_known _ _).1, (addI_known _ _).2, ?_, ?_, ?_⟩
 · obtain ⟨M3, e3⟩ := addL_ext B (pairEnt B a b)
   exact ⟨M1 ++ M2 ++ M3, by rw [e3, e2, e1]; simp⟩
 · have := (addL_len B (pairEnt B a b)).2
   have := ha.len
   have := hb.len
   omega
 · rw [ent_pair hb.dok]
   show (entAt B a).wt.len + (entAt B b).wt.len = _
   rw [ea, w1, w2]; omega
 · rw [ent_pair hb.dok]
   show ((entAt B a).even && (entAt B b).even && decide (-1 ≤ (entAt B a).depth - (entAt B b).depth) && decide ((entAt B a).depth - (entAt B b).depth ≤ 1)) = true
   rw [ea, ha.even, hb.even, ha.depth, hb.depth]
   simp only [Bool.true_and, Bool.and_eq_true, decide_eq_true_eq]
   omega
 · rw [ent_pair hb.dok]
   show 1 + max (entAt B a).depth (entAt B b).depth = _
   rw [ea, ha.depth, hb.depth]
   omega
theorem textR_ok : ∀ (f : Nat) (L : List Ent) (bs : List Int), SOk L → DOk L → 1 ≤ bs.length → bs.length ≤ f → bs.length ≤ 65536 → (∀ x ∈ bs, 0 ≤ x ∧ x < 256) → TextOk L (textR f L bs).1 (textR f L bs).2 bs.length := by
 intro f
 induction f with
 | zero => intro L bs _ _ h1 h2; omega
 | succ f ih =>
  intro L bs hs hd h1 h2 h3 hr
  unfold textR
  by_cases h : bs.length = 1
  · rw [if_pos h, h]
    obtain ⟨b, rfl⟩ : ∃ b, bs = [b] := List.length_eq_one_iff.1 h
    exact TextOk.one hs hd b (hr b (by simp)).1 (hr b (by simp)).2
  · rw [if_neg h]
    have ia := ih L (bs.take (bs.length / 2)) hs hd (by simp; omega) (by simp; omega) (by simp; omega) (fun x hx => hr x (List.mem_of_mem_take hx))
    have ib := ih (textR f L (bs.take (bs.length / 2))).1 (bs.drop (bs.length / 2)) ia.sok ia.dok (by simp; omega) (by simp; omega) (by simp; omega) (fun x hx => hr x (List.mem_of_mem_drop hx))
    have e1 : (bs.take (bs.length / 2)).length = bs.length / 2 := by simp; omega
    have e2 : (bs.drop (bs.length / 2)).length = bs.length - bs.length / 2 := by simp
    rw [e1] at ia
    rw [e2] at ib
    exact TextOk.two (by omega) h3 ia ib
end Go.Proofs.YtgldjpldldknoaaGreatDoor
/- Plain words: no two rules of a store are one. No program. -/
set_option linter.unusedSimpArgs false
set_option linter.unusedVariables false
namespace Go.Proofs.YtgldjpldldknoaaGreatDoor
open Go.RowKit
structure Uq (L : List Ent) : Prop where
 one : ∀ a b : Int, isKnown L a → isKnown L b → a ≠ 0 → b ≠ 0 → (entAt L a).rule = (entAt L b).rule → a = b
 pow : ∀ a : Int, isKnown L a → a ≠ 0 → (entAt L a).rule.kind = 3 → 2 ≤ (entAt L a).rule.times
 ltr : ∀ a : Int, isKnown L a → a ≠ 0 → (entAt L a).rule.kind = 1 → 0 ≤ (entAt L a).rule.letter ∧ (entAt L a).rule.letter < 256
theorem Uq.nil : Uq [] := ⟨fun a b h1 _ h2 => by have := h1.1; have := h1.2; simp at this; omega, fun a h1 h2 => by have := h1.1; have := h1.2; simp at this; omega, fun a h1 h2 => by have := h1.1; have := h1.2; simp at this; omega⟩
theorem Uq.add {L : List Ent} (h : Uq L) (e : Ent) (he : e.rule.kind = 3 → 2 ≤ e.rule.times) (he1 : e.rule.kind = 1 → 0 ≤ e.rule.letter ∧ e.rule.letter < 256) : Uq (addL L e) := by
 cases hj : ruleIdx e.rule L with
 | some j => rw [addL_some hj]; exact h
 | none =>
  rw [addL_none hj]
  have hno : ∀ c : Int, isKnown L c → c ≠ 0 → (entAt L c).rule ≠ e.rule := by
   intro c hc c0 hr
   obtain ⟨k, rfl⟩ : ∃ k : Nat, c = (k : Int) + 1 := ⟨(c - 1).toNat, by have := hc.1; omega⟩
   have hlt : k < L.length := by have := hc.2; omega
   rw [entAt_succ L k hlt] at hr
   unfold ruleIdx at hj
   rw [List.findIdx?_eq_none_iff] at hj
   have := hj L[k] (List.getElem_mem hlt)
   simp [hr] at this
  have hlast : entAt (L ++ [e]) ((L.length : Int) + 1) = e := by
   rw [entAt_succ (L ++ [e]) L.length (by simp)]
   simp
  constructor
  · intro a b ha hb a0 b0 hr
    have ha1 := ha.1
    have ha2 := ha.2
    have hb1 := hb.1
    have hb2 := hb.2
    simp only [List.length_append, List.length_cons, List.length_nil] at ha2 hb2
    by_cases ca : a = (L.length : Int) + 1
    · by_cases cb : b = (L.length : Int) + 1
      · omega
      · exfalso
        have kb : isKnown L b := ⟨hb1, by omega⟩
        rw [ca, hlast, entAt_append L [e] b kb] at hr
        exact hno b kb b0 hr.symm
    · have ka : isKnown L a := ⟨ha1, by omega⟩
      by_cases cb : b = (L.length : Int) + 1
      · exfalso
        rw [cb, hlast, entAt_append L [e] a ka] at hr
        exact hno a ka a0 hr
      · have kb : isKnown L b := ⟨hb1, by omega⟩
        rw [entAt_append L [e] a ka, entAt_append L [e] b kb] at hr
        exact h.one a b ka kb a0 b0 hr
  · intro a ha a0 hk
    have ha1 := ha.1
    have ha2 := ha.2
    simp only [List.length_append, List.length_cons, List.length_nil] at ha2
    by_cases ca : a = (L.length : Int) + 1
    · rw [ca, hlast] at hk ⊢; exact he hk
    · have ka : isKnown L a := ⟨ha1, by omega⟩
      rw [entAt_append L [e] a ka] at hk ⊢
      exact h.pow a ka a0 hk
  · intro a ha a0 hk
    have ha1 := ha.1
    have ha2 := ha.2
    simp only [List.length_append, List.length_cons, List.length_nil] at ha2
    by_cases ca : a = (L.length : Int) + 1
    · rw [ca, hlast] at hk ⊢; exact he1 hk
    · have ka : isKnown L a := ⟨ha1, by omega⟩
      rw [entAt_append L [e] a ka] at hk ⊢
      exact h.ltr a ka a0 hk
theorem Uq.letter {L : List Ent} (h : Uq L) (b : Int) (h0 : 0 ≤ b) (h1 : b < 256) : Uq (addL L (letterEnt b)) := h.add _ (fun e => absurd (show (1 : Int) = 3 from e) (by decide)) (fun _ => ⟨h0, h1⟩)
theorem Uq.pair {L : List Ent} (h : Uq L) (x y : Int) : Uq (addL L (pairEnt L x y)) := h.add _ (fun e => absurd (show (2 : Int) = 3 from e) (by decide)) (fun e => absurd (show (2 : Int) = 1 from e) (by decide))
theorem Uq.pw {L : List Ent} (h : Uq L) (x k : Int) (hk : 2 ≤ k) : Uq (addL L (powEnt L x k)) := h.add _ (fun _ => hk) (fun e => absurd (show (3 : Int) = 1 from e) (by decide))
theorem Uq.text : ∀ (f : Nat) (L : List Ent) (bs : List Int), Uq L → (∀ b ∈ bs, 0 ≤ b ∧ b < 256) → Uq (textR f L bs).1
 | 0, L, bs, h, _ => h
 | f + 1, L, bs, h, hb => by
  unfold textR
  split
  · rename_i h1
    have hm : bs.getD 0 0 ∈ bs := by
     cases bs with
     | nil => simp at h1
     | cons b r => simp
    exact h.letter _ (hb _ hm).1 (hb _ hm).2
  · exact (Uq.text f _ _ (Uq.text f _ _ h (fun b hb' => hb b (List.mem_of_mem_take hb'))) (fun b hb' => hb b (List.mem_of_mem_drop hb'))).pair _ _
end Go.Proofs.YtgldjpldldknoaaGreatDoor
/- Plain words: the text of an ID, and what a step that makes a text leaves. No program. -/
set_option linter.unusedSimpArgs false
set_option linter.unusedVariables false
namespace Go.Proofs.YtgldjpldldknoaaGreatDoor
open Go.RowKit
def reps (t : List Int) : Nat → List Int
 | 0 => []
 | k + 1 => t ++ reps t k
def txtF (L : List Ent) : Nat → Int → List Int
 | 0, _ => []
 | f + 1, id =>
  if id = 0 then [] else
  if (entAt L id).rule.kind = 1 then [(entAt L id).rule.letter] else
  if (entAt L id).rule.kind = 2 then txtF L f (entAt L id).rule.left ++ txtF L f (entAt L id).rule.right else
  reps (txtF L f (entAt L id).rule.left) (entAt L id).rule.times.toNat
def txt (L : List Ent) (id : Int) : List Int := txtF L id.toNat id
theorem DOk.at {L : List Ent} (h : DOk L) (id : Int) (hk : isKnown L id) (h0 : id ≠ 0) :
    ((entAt L id).rule.kind = 1 ∧ entAt L id = letterEnt (entAt L id).rule.letter) ∨
    ((entAt L id).rule.kind = 2 ∧ (1 ≤ (entAt L id).rule.left ∧ (entAt L id).rule.left < id ∧ 1 ≤ (entAt L id).rule.right ∧ (entAt L id).rule.right < id) ∧ entAt L id = pairEnt L (entAt L id).rule.left (entAt L id).rule.right) ∨
    ((entAt L id).rule.kind = 3 ∧ (1 ≤ (entAt L id).rule.left ∧ (entAt L id).rule.left < id) ∧ entAt L id = powEnt L (entAt L id).rule.left (entAt L id).rule.times) := by
 obtain ⟨k, rfl⟩ : ∃ k : Nat, id = (k : Int) + 1 := ⟨(id - 1).toNat, by have := hk.1; omega⟩
 have hlt : k < L.length := by have := hk.2; omega
 rw [entAt_succ L k hlt]
 rcases h k hlt with g | ⟨g1, g2, g3⟩ | ⟨g1, g2, g3⟩
 · exact .inl g
 · exact .inr (.inl ⟨g1, ⟨g2.1, by omega, g2.2.2.1, by omega⟩, g3⟩)
 · exact .inr (.inr ⟨g1, ⟨g2.1, by omega⟩, g3⟩)
theorem txtF_eq {L : List Ent} (h : DOk L) : ∀ (n f : Nat) (id : Int), isKnown L id → id.toNat ≤ n → id.toNat ≤ f → txtF L f id = txtF L id.toNat id := by
 intro n
 induction n with
 | zero =>
  intro f id hk h1 h2
  have h0 : id = 0 := by have := hk.1; omega
  subst h0
  cases f with
  | zero => rfl
  | succ f => simp [txtF]
 | succ n ih =>
  intro f id hk h1 h2
  by_cases h0 : id = 0
  · subst h0
    cases f with
    | zero => rfl
    | succ f => simp [txtF]
  · obtain ⟨g, hg⟩ : ∃ g : Nat, id.toNat = g + 1 := ⟨id.toNat - 1, by have := hk.1; omega⟩
    obtain ⟨f', rfl⟩ : ∃ f' : Nat, f = f' + 1 := ⟨f - 1, by omega⟩
    rw [hg]
    have key : ∀ x : Int, 1 ≤ x → x < id → txtF L f' x = txtF L g x := by
     intro x h3 h4
     have hkx : isKnown L x := ⟨by omega, by have := hk.2; omega⟩
     rw [ih f' x hkx (by omega) (by omega), ih g x hkx (by omega) (by omega)]
    simp only [txtF]
    rw [if_neg h0, if_neg h0]
    rcases h.at id hk h0 with ⟨k1, _⟩ | ⟨k1, k2, _⟩ | ⟨k1, k2, _⟩
    · rw [if_pos k1, if_pos k1]
    · rw [if_neg (by omega), if_pos k1, if_neg (by omega), if_pos k1, key _ k2.1 k2.2.1, key _ k2.2.2.1 k2.2.2.2]
    · rw [if_neg (by omega), if_neg (by omega), if_neg (by omega), if_neg (by omega), key _ k2.1 k2.2]
theorem txt_zero (L : List Ent) : txt L 0 = [] := rfl
theorem txt_pair {L : List Ent} (h : DOk L) {id : Int} (hk : isKnown L id) (h0 : id ≠ 0) (h2 : (entAt L id).rule.kind = 2) : txt L id = txt L (entAt L id).rule.left ++ txt L (entAt L id).rule.right := by
 obtain ⟨g, hg⟩ : ∃ g : Nat, id.toNat = g + 1 := ⟨id.toNat - 1, by have := hk.1; omega⟩
 rcases h.at id hk h0 with ⟨k1, _⟩ | ⟨k1, k2, _⟩ | ⟨k1, k2, _⟩
 · omega
 · unfold txt
   rw [hg]
   simp only [txtF]
   rw [if_neg h0, if_neg (by omega), if_pos k1]
   have hb := hk.2
   rw [txtF_eq h g g _ ⟨by omega, by omega⟩ (by omega) (by omega), txtF_eq h g g _ ⟨by omega, by omega⟩ (by omega) (by omega)]
 · omega
theorem txt_letter {L : List Ent} {id : Int} (hk : isKnown L id) (h0 : id ≠ 0) (h1 : (entAt L id).rule.kind = 1) : txt L id = [(entAt L id).rule.letter] := by
 obtain ⟨g, hg⟩ : ∃ g : Nat, id.toNat = g + 1 := ⟨id.toNat - 1, by have := hk.1; omega⟩
 unfold txt
 rw [hg]
 simp only [txtF]
 rw [if_neg h0, if_pos h1]
theorem txtF_append {L : List Ent} (h : DOk L) (M : List Ent) : ∀ (f : Nat) (id : Int), isKnown L id → txtF (L ++ M) f id = txtF L f id
 | 0, id, hk => rfl
 | f + 1, id, hk => by
  simp only [txtF]
  by_cases h0 : id = 0
  · rw [if_pos h0, if_pos h0]
  · rw [if_neg h0, if_neg h0, entAt_append L M id hk]
    have hb := hk.2
    rcases h.at id hk h0 with ⟨k1, _⟩ | ⟨k1, k2, _⟩ | ⟨k1, k2, _⟩
    · rw [if_pos k1, if_pos k1]
    · rw [if_neg (by omega), if_pos k1, if_neg (by omega), if_pos k1, txtF_append h M f _ ⟨by omega, by omega⟩, txtF_append h M f _ ⟨by omega, by omega⟩]
    · rw [if_neg (by omega), if_neg (by omega), if_neg (by omega), if_neg (by omega), txtF_append h M f _ ⟨by omega, by omega⟩]
theorem txt_append {L : List Ent} (h : DOk L) (M : List Ent) {id : Int} (hk : isKnown L id) : txt (L ++ M) id = txt L id := txtF_append h M _ id hk
structure Bal (L : List Ent) (id : Int) (t : List Int) (d : Int) : Prop where
 known : isKnown L id
 ne : id ≠ 0
 text : txt L id = t
 even : (entAt L id).even = true
 depth : (entAt L id).depth = d
theorem Bal.more {L : List Ent} (h : DOk L) {id : Int} {t : List Int} {d : Int} (hb : Bal L id t d) (M : List Ent) : Bal (L ++ M) id t d :=
 ⟨isKnown_append M hb.known, hb.ne, by rw [txt_append h M hb.known]; exact hb.text, by rw [entAt_append L M id hb.known]; exact hb.even, by rw [entAt_append L M id hb.known]; exact hb.depth⟩
structure Grows (L L' : List Ent) (n : Nat) : Prop where
 ext : ∃ M, L' = L ++ M
 len : L'.length ≤ L.length + n
 sok : SOk L'
 dok : DOk L'
 uq : Uq L → Uq L'
theorem Grows.refl {L : List Ent} (h : SOk L) (d : DOk L) : Grows L L 0 := ⟨⟨[], by simp⟩, by omega, h, d, id⟩
theorem Grows.trans {A B C : List Ent} {m n k : Nat} (h : Grows A B m) (g : Grows B C n) (hk : m + n ≤ k) : Grows A C k := by
 obtain ⟨M, e⟩ := h.ext
 obtain ⟨N, f⟩ := g.ext
 exact ⟨⟨M ++ N, by rw [f, e]; simp⟩, by have := h.len; have := g.len; omega, g.sok, g.dok, fun u => g.uq (h.uq u)⟩
theorem Grows.bal {L L' : List Ent} {n : Nat} (h : Grows L L' n) (hd : DOk L) {id : Int} {t : List Int} {d : Int} (hb : Bal L id t d) : Bal L' id t d := by
 obtain ⟨M, e⟩ := h.ext
 rw [e]; exact hb.more hd M
theorem bal_len {L : List Ent} (hd : DOk L) (hs : SOk L) : ∀ (n : Nat) (id : Int), id.toNat ≤ n → isKnown L id → (entAt L id).even = true → ((txt L id).length : Int) = (entAt L id).wt.len := by
 intro n
 induction n with
 | zero =>
  intro id h1 hk he
  have h0 : id = 0 := by have := hk.1; omega
  subst h0
  rfl
 | succ n ih =>
  intro id h1 hk he
  by_cases h0 : id = 0
  · subst h0; rfl
  · have hb := hk.2
    rcases hd.at id hk h0 with ⟨k1, k2⟩ | ⟨k1, k2, k3⟩ | ⟨k1, k2, k3⟩
    · rw [txt_letter hk h0 k1, k2]
      show (1 : Int) = (Wt.letter _).len
      rw [letter_len]
    · rw [txt_pair hd hk h0 k1]
      rw [k3] at he
      simp only [pairEnt, Bool.and_eq_true] at he
      have il := ih (entAt L id).rule.left (by omega) ⟨by omega, by omega⟩ he.1.1.1
      have ir := ih (entAt L id).rule.right (by omega) ⟨by omega, by omega⟩ he.1.1.2
      have hw : (entAt L id).wt.len = (entAt L (entAt L id).rule.left).wt.len + (entAt L (entAt L id).rule.right).wt.len := by
       have := congrArg (fun e => e.wt.len) k3
       simpa [pairEnt, Wt.join] using this
      rw [List.length_append, hw]
      omega
    · rw [k3] at he
      cases he
theorem bal_parts {L : List Ent} (hd : DOk L) {id : Int} {t : List Int} {d : Int} (hb : Bal L id t d) (h1 : 1 ≤ d) : ∃ l r tl tr dl dr, (entAt L id).rule = ⟨2, 0, l, r, 0⟩ ∧ Bal L l tl dl ∧ Bal L r tr dr ∧ t = tl ++ tr ∧ d = 1 + max dl dr ∧ -1 ≤ dl - dr ∧ dl - dr ≤ 1 := by
 have hk := hb.known
 have hbk := hk.2
 rcases hd.at id hk hb.ne with ⟨k1, k2⟩ | ⟨k1, k2, k3⟩ | ⟨k1, k2, k3⟩
 · have := hb.depth
   rw [k2] at this
   have : (0 : Int) = d := this
   omega
 · have he := hb.even
   have hdep := hb.depth
   have hru := congrArg (fun e => e.rule) k3
   rw [k3] at he hdep
   simp only [pairEnt, Bool.and_eq_true, decide_eq_true_eq] at he hdep
   refine ⟨_, _, _, _, _, _, hru, ⟨⟨by omega, by omega⟩, by omega, rfl, he.1.1.1, rfl⟩, ⟨⟨by omega, by omega⟩, by omega, rfl, he.1.1.2, rfl⟩, ?_, hdep.symm, he.1.2, he.2⟩
   rw [← hb.text, txt_pair hd hk hb.ne k1]
 · have he := hb.even
   rw [k3] at he
   cases he
theorem bal_pair {L : List Ent} (hs : SOk L) (hd : DOk L) {a b : Int} {s t : List Int} {da db : Int} (ha : Bal L a s da) (hb : Bal L b t db) (h1 : -1 ≤ da - db) (h2 : da - db ≤ 1) (hl : (s.length : Int) + t.length ≤ 1152921504606846976) :
    Grows L (addL L (pairEnt L a b)) 1 ∧ Bal (addL L (pairEnt L a b)) (addI L (pairEnt L a b)) (s ++ t) (1 + max da db) := by
 have la := bal_len hd hs a.toNat a (Nat.le_refl _) ha.known ha.even
 have lb := bal_len hd hs b.toNat b (Nat.le_refl _) hb.known hb.even
 rw [ha.text] at la
 rw [hb.text] at lb
 have hd' := hd.pair a b ha.known hb.known ha.ne hb.ne
 have g : Grows L (addL L (pairEnt L a b)) 1 := ⟨addL_ext L _, (addL_len L _).2, hs.pair a b ha.known hb.known ha.ne hb.ne (by omega), hd', fun u => u.pair a b⟩
 have he := ent_pair hd a b
 have hk := addI_known L (pairEnt L a b)
 refine ⟨g, ⟨hk.1, hk.2, ?_, ?_, ?_⟩⟩
 · have k2 : (entAt (addL L (pairEnt L a b)) (addI L (pairEnt L a b))).rule.kind = 2 := by rw [he]; rfl
   rw [txt_pair hd' hk.1 hk.2 k2, he]
   show txt _ a ++ txt _ b = _
   rw [(g.bal hd ha).text, (g.bal hd hb).text]
 · rw [he]
   show ((entAt L a).even && (entAt L b).even && decide (-1 ≤ (entAt L a).depth - (entAt L b).depth) && decide ((entAt L a).depth - (entAt L b).depth ≤ 1)) = true
   rw [ha.even, hb.even, ha.depth, hb.depth]
   simp [h1, h2]
 · rw [he]
   show 1 + max (entAt L a).depth (entAt L b).depth = _
   rw [ha.depth, hb.depth]
end Go.Proofs.YtgldjpldldknoaaGreatDoor
/- Plain words: what an ID reaches, and the exported rules. No program. -/
set_option linter.unusedSimpArgs false
set_option linter.unusedVariables false
namespace Go.Proofs.YtgldjpldldknoaaGreatDoor
open Go.RowKit
def refsR (r : Rl) : List Int := if r.kind = 2 then [r.left, r.right] else if r.kind = 3 then [r.left] else []
def Rchd (L : List Ent) (id x : Int) : Prop := ∀ P : Int → Prop, P id → (∀ z, P z → ∀ y ∈ refsR (entAt L z).rule, P y) → P x
structure Clo (L : List Ent) (id : Int) (ids : List Int) (i : Nat) : Prop where
 nodup : ids.Nodup
 mem : id ∈ ids
 rng : ∀ x ∈ ids, 1 ≤ x ∧ x ≤ id
 least : ∀ x ∈ ids, Rchd L id x
 done : ∀ j (h : j < ids.length), j < i → ∀ y ∈ refsR (entAt L ids[j]).rule, y ∈ ids
theorem Clo.start (L : List Ent) {id : Int} (h : 1 ≤ id) : Clo L id [id] 0 :=
 ⟨by simp, by simp, fun x hx => by simp at hx; subst hx; omega, fun x hx => by simp at hx; subst hx; exact fun P h _ => h, fun j _ hj => by omega⟩
theorem nodup_le : ∀ (n : Nat) (l : List Int), l.Nodup → (∀ x ∈ l, 1 ≤ x ∧ x ≤ (n : Int)) → l.length ≤ n := by
 intro n
 induction n with
 | zero =>
  intro l _ h
  cases l with
  | nil => simp
  | cons x r => have := h x (by simp); omega
 | succ n ih =>
  intro l hn h
  by_cases hm : ((n + 1 : Nat) : Int) ∈ l
  · have h1 := ih (l.erase ((n + 1 : Nat) : Int)) (hn.erase _) (fun x hx => by
      have h2 := (List.Nodup.mem_erase_iff hn).1 hx
      have h3 := h x h2.2
      have h4 := h2.1
      omega)
    rw [List.length_erase_of_mem hm] at h1
    omega
  · have h1 := ih l hn (fun x hx => by
      have h3 := h x hx
      have h4 : x ≠ ((n + 1 : Nat) : Int) := fun e => hm (e ▸ hx)
      omega)
    omega
theorem Clo.len {L : List Ent} {id : Int} {ids : List Int} {i : Nat} (h : Clo L id ids i) : (ids.length : Int) ≤ id := by
 have h0 := h.rng id h.mem
 have := nodup_le id.toNat ids h.nodup (fun x hx => by have := h.rng x hx; omega)
 omega
structure CloIn (L : List Ent) (id : Int) (ids : List Int) (i : Nat) (rs : List Int) (m : Nat) : Prop where
 clo : Clo L id ids i
 seen : ∀ y ∈ rs.take m, y ∈ ids
theorem CloIn.skip {L : List Ent} {id : Int} {ids : List Int} {i : Nat} {rs : List Int} {m : Nat} (h : CloIn L id ids i rs m) (hm : m < rs.length) (hy : rs[m] ∈ ids) : CloIn L id ids i rs (m + 1) := by
 refine ⟨h.clo, fun y hy2 => ?_⟩
 rw [List.take_succ_eq_append_getElem hm, List.mem_append] at hy2
 rcases hy2 with h1 | h1
 · exact h.seen y h1
 · simp at h1; rw [h1]; exact hy
theorem CloIn.add {L : List Ent} {id : Int} {ids : List Int} {i : Nat} {rs : List Int} {m : Nat} (h : CloIn L id ids i rs m) (hi : i < ids.length) (hrs : refsR (entAt L ids[i]).rule = rs) (hm : m < rs.length) (hy : rs[m] ∉ ids) (hr : 1 ≤ rs[m] ∧ rs[m] ≤ id) : CloIn L id (ids ++ [rs[m]]) i rs (m + 1) := by
 refine ⟨⟨?_, by simp [h.clo.mem], ?_, ?_, ?_⟩, fun y hy2 => ?_⟩
 · rw [List.nodup_append]
   exact ⟨h.clo.nodup, by simp, fun a ha b hb e => by simp at hb; rw [← hb, ← e] at hy; exact hy ha⟩
 · intro x hx
   rcases List.mem_append.1 hx with h1 | h1
   · exact h.clo.rng x h1
   · simp at h1; rw [h1]; exact hr
 · intro x hx
   rcases List.mem_append.1 hx with h1 | h1
   · exact h.clo.least x h1
   · simp at h1
     subst h1
     intro P hP hc
     exact hc _ (h.clo.least _ (List.getElem_mem hi) P hP hc) _ (by rw [hrs]; exact List.getElem_mem hm)
 · intro j hj hji y hy2
   have hlt : j < ids.length := by omega
   rw [List.getElem_append_left hlt] at hy2
   exact List.mem_append_left _ (h.clo.done j hlt hji y hy2)
 · rw [List.take_succ_eq_append_getElem hm, List.mem_append] at hy2
   rcases hy2 with h1 | h1
   · exact List.mem_append_left _ (h.seen y h1)
   · simp at h1; rw [h1]; simp
theorem CloIn.next {L : List Ent} {id : Int} {ids : List Int} {i : Nat} {rs : List Int} {m : Nat} (h : CloIn L id ids i rs m) (hi : i < ids.length) (hrs : refsR (entAt L ids[i]).rule = rs) (hm : rs.length ≤ m) : Clo L id ids (i + 1) := by
 refine ⟨h.clo.nodup, h.clo.mem, h.clo.rng, h.clo.least, fun j hj hji y hy => ?_⟩
 by_cases e : j = i
 · subst e
   rw [hrs] at hy
   exact h.seen y (by rw [List.take_of_length_le hm]; exact hy)
 · exact h.clo.done j hj (by omega) y hy
structure Outs (L : List Ent) (id : Int) (out : List Int) : Prop where
 sorted : out.Pairwise (· < ·)
 rng : ∀ x ∈ out, 1 ≤ x ∧ x ≤ id
 mem : id ∈ out
 least : ∀ x ∈ out, Rchd L id x
 closed : ∀ x ∈ out, ∀ y ∈ refsR (entAt L x).rule, y ∈ out
end Go.Proofs.YtgldjpldldknoaaGreatDoor

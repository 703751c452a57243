/- The map of a store: rules as keys. -/
import Derived.Test.YtclpndigmidjkaaGreatChecked
import Derived.Test.YtclpndigmidjkaaGreatModel
import Derived.Laws.StructEq
set_option linter.unusedSimpArgs false
set_option linter.unusedVariables false
namespace Go.Proofs.YtclpndigmidjkaaGreat
open Go.RowKit

@[reducible] def Rl.V (r : Rl) : Value := .agg #[.int .i64 r.kind, .int .u8 r.letter, .int .i64 r.left, .int .i64 r.right, .int .i64 r.times]

def entriesFrom : Nat → List Ent → List MapEntry
  | _, [] => []
  | i, e :: r => { key := e.rule.V, val := .int .i64 ((i : Int) + 1), born := i } :: entriesFrom (i + 1) r

theorem Rl.eq_iff (a b : Rl) : decide (a = b) = (a.kind == b.kind && (a.letter == b.letter && (a.left == b.left && (a.right == b.right && a.times == b.times)))) := by
  cases a; cases b
  rw [Bool.eq_iff_iff]
  simp

theorem rule_equal (a b : Rl) (w : World) : (Op.equal 132 a.V b.V).run Tryz.prog w = .ok (decide (a = b)) w := by
  rw [Rl.eq_iff]
  simp [Op.equal, Op.maxDepth, go_sem]
  repeat' split
  all_goals simp_all

theorem rule_check_at (em : Bool) (d : Nat) (a : Rl) (w : World) : (Instr.checkKey em (d + 1 + 1) 132 a.V).run Tryz.prog w = .ok () w := by
  simp [Instr.checkKey, go_sem]

theorem rule_check (em : Bool) (a : Rl) (w : World) : (Instr.checkKey em 10000 132 a.V).run Tryz.prog w = .ok () w := rule_check_at em 9998 a w

theorem run_findAsking (r : Rl) (w : World) : ∀ (L : List Ent) (i : Nat),
    (Instr.findAsking 132 r.V (entriesFrom i L) i).run Tryz.prog w = .ok ((L.findIdx? (fun e => decide (r = e.rule))).map fun j => (i + j, Value.int .i64 (((i + j : Nat) : Int) + 1))) w := by
  intro L
  induction L with
  | nil => intro i; rfl
  | cons e rest ih =>
    intro i
    simp only [entriesFrom, Instr.findAsking, Sem.run_bind, rule_equal, Result.andThen_ok, List.findIdx?_cons]
    by_cases h : r = e.rule
    · simp [h]
    · simp only [h, decide_false, Bool.false_eq_true, if_false, ih (i + 1)]
      congr 1
      cases L' : rest.findIdx? (fun e => decide (r = e.rule)) with
      | none => rfl
      | some j =>
        simp only [Option.map_some]
        rw [show i + 1 + j = i + (j + 1) by omega]

theorem run_findKey (r : Rl) (w : World) (L : List Ent) :
    (Instr.findKey 132 r.V (entriesFrom 0 L)).run Tryz.prog w = .ok ((L.findIdx? (fun e => decide (r = e.rule))).map fun j => (j, Value.int .i64 ((j : Int) + 1))) w := by
  have h := run_findAsking r w L 0
  simp only [Nat.zero_add] at h
  cases L with
  | nil => simp [Instr.findKey, entriesFrom, Instr.findNow, go_sem]
  | cons e rest =>
    simp [Instr.findKey, entriesFrom, Instr.findNow, Instr.sameNow, go_sem] at h ⊢
    exact h

/-- Where a rule stands in a list, from 0 on. -/
def ruleIdx (r : Rl) (L : List Ent) : Option Nat := L.findIdx? (fun e => decide (r = e.rule))

theorem run_lookup_some {mb : Nat} {L : List Ent} {c : Nat} (r : Rl) (j : Nat) (w : World) (hm : w.heap[mb]? = some (.map (entriesFrom 0 L).toArray c)) (hj : ruleIdx r L = some j) :
    (Instr.lookup 118 (.map (some mb)) r.V true).run Tryz.prog w = .ok (.tuple #[.int .i64 ((j : Int) + 1), .bool true]) w := by
  unfold ruleIdx at hj
  have h1 := run_findKey r w L
  rw [hj] at h1
  simp [Instr.lookup, go_sem, getObj, Sem.run, hm, rule_check, h1]

theorem run_lookup_none {mb : Nat} {L : List Ent} {c : Nat} (r : Rl) (w : World) (hm : w.heap[mb]? = some (.map (entriesFrom 0 L).toArray c)) (hj : ruleIdx r L = none) :
    (Instr.lookup 118 (.map (some mb)) r.V true).run Tryz.prog w = .ok (.tuple #[.int .i64 0, .bool false]) w := by
  unfold ruleIdx at hj
  have h1 := run_findKey r w L
  rw [hj] at h1
  simp [Instr.lookup, go_sem, getObj, Sem.run, hm, rule_check, h1]

theorem entries_push (e : Ent) : ∀ (L : List Ent) (i : Nat), entriesFrom i (L ++ [e]) = entriesFrom i L ++ [{ key := e.rule.V, val := .int .i64 (((i + L.length : Nat) : Int) + 1), born := i + L.length }] := by
  intro L
  induction L with
  | nil => intro i; simp [entriesFrom]
  | cons x r ih =>
    intro i
    simp only [List.cons_append, entriesFrom, ih (i + 1), List.length_cons]
    rw [show i + 1 + r.length = i + (r.length + 1) by omega]

theorem run_update {mb : Nat} {L : List Ent} (e : Ent) (w : World) (hm : w.heap[mb]? = some (.map (entriesFrom 0 L).toArray L.length)) (hj : ruleIdx e.rule L = none) (n : Int) (hn : n = (L.length : Int) + 1) :
    (Instr.mapUpdate 118 (.map (some mb)) e.rule.V (.int .i64 n)).run Tryz.prog w = .ok () { w with heap := w.heap.setIfInBounds mb (.map (entriesFrom 0 (L ++ [e])).toArray (L ++ [e]).length) } := by
  unfold ruleIdx at hj
  have h1 := run_findKey e.rule w L
  rw [hj] at h1
  subst hn
  rw [entries_push]
  simp [Instr.mapUpdate, go_sem, getObj, setObj, Sem.run, hm, rule_check, h1]

end Go.Proofs.YtclpndigmidjkaaGreat

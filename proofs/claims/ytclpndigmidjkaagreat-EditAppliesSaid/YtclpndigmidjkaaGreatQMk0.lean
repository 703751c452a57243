/- The reference's store in memory; what is known in the last region of evergreenref12.Add. -/
import Derived.Test.YtclpndigmidjkaaGreatQDr2
import Derived.Test.YtclpndigmidjkaaGreatQR37a
import Derived.Laws.StructEq
import Derived.Deep.QuietTactic
import Derived.BigQuiet
set_option linter.unusedSimpArgs false
set_option linter.unusedVariables false
namespace Go.Proofs.YtclpndigmidjkaaGreat
open Go.RowKit

def rlv (e : Ent) : List Value := e.rule.vals
def lnv (e : Ent) : List Value := [.int .i64 e.wt.len]

/-- A store of the reference, by value: the rules and the lengths of the entries. -/
structure RSt (w : World) (va vb : Value) (L : List Ent) : Prop where
  ru : ∃ a cap, va = .slice a L.length cap ∧ RG rlv 5 0 w a L ∧ (a = none → cap = 0)
  le : ∃ a cap, vb = .slice a L.length cap ∧ RG lnv 1 0 w a L ∧ (a = none → cap = 0)
  ty1 : ∀ ad n c, va = .slice (some ad) n c → ∃ cs f, w.heap[ad.block]? = some (Obj.cells cs 132 f)
  ty2 : ∀ ad n c, vb = .slice (some ad) n c → ∃ cs f, w.heap[ad.block]? = some (Obj.cells cs 3 f)

theorem RSt.kept0 {w w' : World} {va vb : Value} {L : List Ent} (h : RSt w va vb L) (hf : Fr0 w w') : RSt w' va vb L := by
  obtain ⟨⟨a, c, h1, h2, h5⟩, ⟨b, d, h3, h4, h6⟩, t1, t2⟩ := h
  refine ⟨⟨a, c, h1, h2.kept0 hf, h5⟩, ⟨b, d, h3, h4.kept0 hf, h6⟩, fun ad n c h => ?_, fun ad n c h => ?_⟩
  · obtain ⟨cs, f, h7⟩ := t1 ad n c h
    exact ⟨cs, f, hf.kept h7⟩
  · obtain ⟨cs, f, h7⟩ := t2 ad n c h
    exact ⟨cs, f, hf.kept h7⟩
theorem RSt.nil (w : World) : RSt w (.slice none 0 0) (.slice none 0 0) [] :=
  ⟨⟨none, 0, rfl, RG.nil _ _ _ _ _, fun _ => rfl⟩, ⟨none, 0, rfl, RG.nil _ _ _ _ _, fun _ => rfl⟩, (fun _ _ _ h => by cases h), (fun _ _ _ h => by cases h)⟩

/-- Blocks of other types than those of the rules and the lengths are written. -/
theorem RSt.fr {w w' : World} {va vb : Value} {L : List Ent} (h : RSt w va vb L) {S : Nat → Prop} (hf : Fr S w w') (h1 : ∀ k cur f, w.heap[k]? = some (.cells cur 132 f) → ¬ S k) (h2 : ∀ k cur f, w.heap[k]? = some (.cells cur 3 f) → ¬ S k) : RSt w' va vb L := by
  obtain ⟨⟨a, c, rfl, g2, h5⟩, ⟨b, d, rfl, h4, h6⟩, t1, t2⟩ := h
  have n1 : ∀ ad, a = some ad → ¬ S ad.block := by
    rintro ad rfl
    obtain ⟨cs, f, h7⟩ := t1 _ _ _ rfl
    exact h1 _ _ _ h7
  have n2 : ∀ ad, b = some ad → ¬ S ad.block := by
    rintro ad rfl
    obtain ⟨cs, f, h7⟩ := t2 _ _ _ rfl
    exact h2 _ _ _ h7
  have key : ∀ {α : Type} {vals : α → List Value} {size : Nat} {ad : Option Addr} {xs : List α}, (∀ x, ad = some x → ¬ S x.block) → RG vals size 0 w ad xs → RG vals size 0 w' ad xs := by
    intro α vals size ad xs hn hr i hi
    obtain ⟨bb, off, rfl, q2, q3, q4⟩ := hr i hi
    have hne : ¬ S bb := hn _ rfl
    refine ⟨bb, off, rfl, by have := hf.size; omega, ?_, fun j u hj => (hf.cell _ q2 hne).trans (q4 j u hj)⟩
    rcases q3 with q3 | ⟨cs, t, fr, g1, g2⟩
    · exact .inl q3
    · exact .inr ⟨cs, t, fr, hf.kept g1 hne, g2⟩
  refine ⟨⟨a, c, rfl, key n1 g2, h5⟩, ⟨b, d, rfl, key n2 h4, h6⟩, fun ad n c h => ?_, fun ad n c h => ?_⟩
  · obtain ⟨cs, f, h7⟩ := t1 ad n c h
    exact ⟨cs, f, hf.kept h7 (by cases h; exact n1 _ rfl)⟩
  · obtain ⟨cs, f, h7⟩ := t2 ad n c h
    exact ⟨cs, f, hf.kept h7 (by cases h; exact n2 _ rfl)⟩

/-- A cell of a block of the reference's own Store type is written. -/
theorem RSt.set {w : World} {va vb : Value} {L : List Ent} (h : RSt w va vb L) {Z : Nat} {cs : Array Value} (hz : w.heap[Z]? = some (.cells cs 34 (0, 0))) (o : Nat) (u : Value) : RSt (w.setCell ⟨Z, o, none⟩ u) va vb L :=
  h.fr (S := fun k => k = Z) ((Fr.refl (fun k => k = Z) w).setCell _ _ (fun _ => rfl)) (fun k cur f hk => ne_of_types hk hz (by decide)) (fun k cur f hk => ne_of_types hk hz (by decide))

theorem add_offA (b o j : Nat) : (⟨b, o, none⟩ : Addr).add j = ⟨b, o + j, none⟩ := by
  unfold Addr.add
  split
  · next e => rw [e, Nat.add_zero]
  · rfl

theorem src_rg {α : Type} {vals : α → List Value} {size B : Nat} {w : World} {a : Option Addr} {xs : List α} {cap : Nat} (h : RG vals size B w a xs) (hv : ∀ x ∈ xs, (vals x).length = size) (hs : 0 < size) (hn : a = none → cap = 0) : SrcAt w (.slice a xs.length cap) xs.length (xs.flatMap vals) := by
  by_cases h0 : xs.length = 0
  · obtain rfl : xs = [] := List.eq_nil_of_length_eq_zero h0
    cases a with
    | none =>
      obtain rfl := hn rfl
      exact .inl ⟨rfl, rfl, rfl⟩
    | some ad => exact .inr ⟨ad, cap, rfl, fun j u hj => by simp at hj⟩
  · obtain ⟨b, off, rfl, _⟩ := h 0 (by omega)
    refine .inr ⟨_, cap, rfl, fun j u hj => ?_⟩
    have hlen := flat_len vals size xs hv
    have hj2 := (List.getElem?_eq_some_iff.1 hj).1
    have hi : j / size < xs.length := Nat.div_lt_of_lt_mul (by rw [Nat.mul_comm]; omega)
    have hr : j % size < size := Nat.mod_lt _ hs
    have e := flat_get vals size xs hv (j / size) (j % size) hr _ (List.getElem?_eq_getElem hi)
    rw [Nat.mul_comm, Nat.div_add_mod] at e
    rw [e] at hj
    obtain ⟨b', off', h1, _, _, h4⟩ := h (j / size) hi
    simp only [Option.some.injEq, Addr.mk.injEq, and_true] at h1
    obtain ⟨rfl, rfl⟩ := h1
    have := h4 _ u hj
    rw [show b = b from rfl] at this
    unfold Addr.add
    split
    · next hz =>
      subst hz
      simpa using this
    · rw [show off + j = off + j / size * size + j % size by rw [Nat.add_assoc, Nat.mul_comm, Nat.div_add_mod]]
      exact this

theorem cells2f {w : World} {b : Nat} {x0 x1 : Value} {t : TypeId} (h : w.heap[b]? = some (.cells #[x0, x1] t (0, 0))) : w.cell? ⟨b, 0, none⟩ = some x0 ∧ w.cell? ⟨b, 1, none⟩ = some x1 ∧ (∀ o, w.frozen? ⟨b, o, none⟩ = false) ∧ b < w.heap.size :=
  ⟨by rw [cell_of_block h]; rfl, by rw [cell_of_block h]; rfl, fun o => frozen_of_block h o, lt_of_block h⟩
theorem cells2w {w : World} {b : Nat} {x0 x1 : Value} {t : TypeId} (h : w.heap[b]? = some (.cells #[x0, x1] t (0, 0))) : w.cell? ⟨b, 0, none⟩ = some x0 ∧ w.cell? ⟨b, 1, none⟩ = some x1 ∧ b < w.heap.size :=
  ⟨by rw [cell_of_block h]; rfl, by rw [cell_of_block h]; rfl, lt_of_block h⟩
theorem cells5w' {w : World} {b : Nat} {x0 x1 x2 x3 x4 : Value} {t : TypeId} (h : w.heap[b]? = some (.cells #[x0, x1, x2, x3, x4] t (0, 0))) :
    w.cell? ⟨b, 0, none⟩ = some x0 ∧ w.cell? ⟨b, 1, none⟩ = some x1 ∧ w.cell? ⟨b, 2, none⟩ = some x2 ∧ w.cell? ⟨b, 3, none⟩ = some x3 ∧ w.cell? ⟨b, 4, none⟩ = some x4 ∧ b < w.heap.size :=
  ⟨by rw [cell_of_block h]; rfl, by rw [cell_of_block h]; rfl, by rw [cell_of_block h]; rfl, by rw [cell_of_block h]; rfl, by rw [cell_of_block h]; rfl, lt_of_block h⟩

theorem info_rule : (Tryz.prog.info? 132).map (fun i => (i.zero, i.size, i.bytes)) = some (some (.agg #[.int .i64 0, .int .u8 0, .int .i64 0, .int .i64 0, .int .i64 0]), 5, 40) := by kernel_rfl
theorem rt_rule : RT 31 132 5 40 := by
  obtain ⟨i, h1, h2, h3, h4⟩ := info_parts info_rule
  exact ⟨by omega, i, _, Tryz.underlying31, h1, h2, h3, h4, rfl⟩

theorem idx_none {L : List Ent} {r : Rl} (h : ∀ j (hj : j < L.length), L[j].rule ≠ r) : ruleIdx r L = none := by
  unfold ruleIdx
  rw [List.findIdx?_eq_none_iff]
  intro e he
  obtain ⟨j, hj, rfl⟩ := List.mem_iff_getElem.1 he
  exact decide_eq_false (fun e => h j hj e.symm)
theorem idx_some {L : List Ent} {r : Rl} {k : Nat} (hk : k < L.length) (he : L[k].rule = r) (h : ∀ j (hj : j < L.length), j < k → L[j].rule ≠ r) : ruleIdx r L = some k := by
  unfold ruleIdx
  rw [List.findIdx?_eq_some_iff_getElem]
  exact ⟨hk, decide_eq_true he.symm, fun j hj => by simpa using fun e => h j (by omega) hj e.symm⟩

theorem rule_eql (a b : Rl) (w : World) : (binOp .eql 132 (.agg #[.int .i64 a.kind, .int .u8 a.letter, .int .i64 a.left, .int .i64 a.right, .int .i64 a.times]) (.agg #[.int .i64 b.kind, .int .u8 b.letter, .int .i64 b.left, .int .i64 b.right, .int .i64 b.times])).run Tryz.prog w = .ok (.bool (decide (a = b))) w := by
  have h := rule_equal a b w
  rw [run_eql_struct]
  have e : (Op.equalIn 10000 132 (.agg #[.int .i64 a.kind, .int .u8 a.letter, .int .i64 a.left, .int .i64 a.right, .int .i64 a.times]) (.agg #[.int .i64 b.kind, .int .u8 b.letter, .int .i64 b.left, .int .i64 b.right, .int .i64 b.times])).run Tryz.prog w = .ok (decide (a = b)) w := h
  rw [e]
  rfl

/-- What is known in the last region of Add. -/
structure AddG (w1 : World) (Z : Nat) (L : List Ent) (x : Ent) (ra la : Option Addr) (rcap lcap : Nat) (d : Nat → Bool) (v : Nat → Value) (w : World) : Prop where
  fr : Fr (fun k => k = Z + 1 + 1) w1 w
  a : Ch 132 5 w1.heap.size (d 0) (d 3) (d 5) (d 6) (v 26) (v 29) (v 31) (v 32) w L.length (L.flatMap rlv) (rlv x)
  b : Ch 3 1 w1.heap.size (d 7) (d 10) (d 12) (d 13) (v 33) (v 36) (v 38) (v 39) w L.length (L.flatMap lnv) (lnv x)
  e1 : d 1 = true → v 27 = .pointer (some ⟨Z, 0, none⟩)
  e2 : d 2 = true → v 28 = .slice ra L.length rcap
  e4 : d 4 = true → v 30 = .agg #[.int .i64 x.rule.kind, .int .u8 x.rule.letter, .int .i64 x.rule.left, .int .i64 x.rule.right, .int .i64 x.rule.times]
  e8 : d 8 = true → v 34 = .pointer (some ⟨Z, 1, none⟩)
  e9 : d 9 = true → v 35 = .slice la L.length lcap
  e11 : d 11 = true → v 37 = .int .i64 x.wt.len
  e14 : d 14 = true → v 40 = .agg #[v 32, v 39] ∧ d 6 = true ∧ d 13 = true
  e15 : d 15 = true → v 41 = .pointer (some ⟨Z, 0, none⟩)
  e16 : d 16 = true → v 42 = .slice ra L.length rcap
  e17 : d 17 = true → v 43 = .int .i64 L.length
  e18 : d 18 = true → v 44 = .int .i64 ((L.length : Int) + 1)
  e19 : d 19 = true → w.heap[Z + 1 + 1]? = some (.cells #[v 32, v 39] 34 (0, 0)) ∧ d 6 = true ∧ d 13 = true
  z2 : d 19 = false → w.heap[Z + 1 + 1]? = some (.cells #[.slice none 0 0, .slice none 0 0] 34 (0, 0))
  e20 : d 20 = true → v 7 = .int .i64 ((L.length : Int) + 1)

theorem AddG.s1 {w1 : World} {Z : Nat} {L : List Ent} {x : Ent} {ra la : Option Addr} {rcap lcap : Nat} {d : Nat → Bool} {v : Nat → Value} {w : World} (h : AddG w1 Z L x ra la rcap lcap d v w) : AddG w1 Z L x ra la rcap lcap (fun j => decide (j = 1) || d j) (updV v 27 (.pointer (some ⟨Z, 0, none⟩))) w := by
  obtain ⟨fr, a, b, e1, e2, e4, e8, e9, e11, e14, e15, e16, e17, e18, e19, z2, e20⟩ := h
  exact ⟨fr, a, b, fun _ => rfl, e2, e4, e8, e9, e11, e14, e15, e16, e17, e18, e19, z2, e20⟩
theorem AddG.s2 {w1 : World} {Z : Nat} {L : List Ent} {x : Ent} {ra la : Option Addr} {rcap lcap : Nat} {d : Nat → Bool} {v : Nat → Value} {w : World} (h : AddG w1 Z L x ra la rcap lcap d v w) : AddG w1 Z L x ra la rcap lcap (fun j => decide (j = 2) || d j) (updV v 28 (.slice ra L.length rcap)) w := by
  obtain ⟨fr, a, b, e1, e2, e4, e8, e9, e11, e14, e15, e16, e17, e18, e19, z2, e20⟩ := h
  exact ⟨fr, a, b, e1, fun _ => rfl, e4, e8, e9, e11, e14, e15, e16, e17, e18, e19, z2, e20⟩
theorem AddG.s4 {w1 : World} {Z : Nat} {L : List Ent} {x : Ent} {ra la : Option Addr} {rcap lcap : Nat} {d : Nat → Bool} {v : Nat → Value} {w : World} (h : AddG w1 Z L x ra la rcap lcap d v w) : AddG w1 Z L x ra la rcap lcap (fun j => decide (j = 4) || d j) (updV v 30 (.agg #[.int .i64 x.rule.kind, .int .u8 x.rule.letter, .int .i64 x.rule.left, .int .i64 x.rule.right, .int .i64 x.rule.times])) w := by
  obtain ⟨fr, a, b, e1, e2, e4, e8, e9, e11, e14, e15, e16, e17, e18, e19, z2, e20⟩ := h
  exact ⟨fr, a, b, e1, e2, fun _ => rfl, e8, e9, e11, e14, e15, e16, e17, e18, e19, z2, e20⟩
theorem AddG.s8 {w1 : World} {Z : Nat} {L : List Ent} {x : Ent} {ra la : Option Addr} {rcap lcap : Nat} {d : Nat → Bool} {v : Nat → Value} {w : World} (h : AddG w1 Z L x ra la rcap lcap d v w) : AddG w1 Z L x ra la rcap lcap (fun j => decide (j = 8) || d j) (updV v 34 (.pointer (some ⟨Z, 1, none⟩))) w := by
  obtain ⟨fr, a, b, e1, e2, e4, e8, e9, e11, e14, e15, e16, e17, e18, e19, z2, e20⟩ := h
  exact ⟨fr, a, b, e1, e2, e4, fun _ => rfl, e9, e11, e14, e15, e16, e17, e18, e19, z2, e20⟩
theorem AddG.s9 {w1 : World} {Z : Nat} {L : List Ent} {x : Ent} {ra la : Option Addr} {rcap lcap : Nat} {d : Nat → Bool} {v : Nat → Value} {w : World} (h : AddG w1 Z L x ra la rcap lcap d v w) : AddG w1 Z L x ra la rcap lcap (fun j => decide (j = 9) || d j) (updV v 35 (.slice la L.length lcap)) w := by
  obtain ⟨fr, a, b, e1, e2, e4, e8, e9, e11, e14, e15, e16, e17, e18, e19, z2, e20⟩ := h
  exact ⟨fr, a, b, e1, e2, e4, e8, fun _ => rfl, e11, e14, e15, e16, e17, e18, e19, z2, e20⟩
theorem AddG.s11 {w1 : World} {Z : Nat} {L : List Ent} {x : Ent} {ra la : Option Addr} {rcap lcap : Nat} {d : Nat → Bool} {v : Nat → Value} {w : World} (h : AddG w1 Z L x ra la rcap lcap d v w) : AddG w1 Z L x ra la rcap lcap (fun j => decide (j = 11) || d j) (updV v 37 (.int .i64 x.wt.len)) w := by
  obtain ⟨fr, a, b, e1, e2, e4, e8, e9, e11, e14, e15, e16, e17, e18, e19, z2, e20⟩ := h
  exact ⟨fr, a, b, e1, e2, e4, e8, e9, fun _ => rfl, e14, e15, e16, e17, e18, e19, z2, e20⟩
theorem AddG.s15 {w1 : World} {Z : Nat} {L : List Ent} {x : Ent} {ra la : Option Addr} {rcap lcap : Nat} {d : Nat → Bool} {v : Nat → Value} {w : World} (h : AddG w1 Z L x ra la rcap lcap d v w) : AddG w1 Z L x ra la rcap lcap (fun j => decide (j = 15) || d j) (updV v 41 (.pointer (some ⟨Z, 0, none⟩))) w := by
  obtain ⟨fr, a, b, e1, e2, e4, e8, e9, e11, e14, e15, e16, e17, e18, e19, z2, e20⟩ := h
  exact ⟨fr, a, b, e1, e2, e4, e8, e9, e11, e14, fun _ => rfl, e16, e17, e18, e19, z2, e20⟩
theorem AddG.s16 {w1 : World} {Z : Nat} {L : List Ent} {x : Ent} {ra la : Option Addr} {rcap lcap : Nat} {d : Nat → Bool} {v : Nat → Value} {w : World} (h : AddG w1 Z L x ra la rcap lcap d v w) : AddG w1 Z L x ra la rcap lcap (fun j => decide (j = 16) || d j) (updV v 42 (.slice ra L.length rcap)) w := by
  obtain ⟨fr, a, b, e1, e2, e4, e8, e9, e11, e14, e15, e16, e17, e18, e19, z2, e20⟩ := h
  exact ⟨fr, a, b, e1, e2, e4, e8, e9, e11, e14, e15, fun _ => rfl, e17, e18, e19, z2, e20⟩
theorem AddG.s17 {w1 : World} {Z : Nat} {L : List Ent} {x : Ent} {ra la : Option Addr} {rcap lcap : Nat} {d : Nat → Bool} {v : Nat → Value} {w : World} (h : AddG w1 Z L x ra la rcap lcap d v w) : AddG w1 Z L x ra la rcap lcap (fun j => decide (j = 17) || d j) (updV v 43 (.int .i64 L.length)) w := by
  obtain ⟨fr, a, b, e1, e2, e4, e8, e9, e11, e14, e15, e16, e17, e18, e19, z2, e20⟩ := h
  exact ⟨fr, a, b, e1, e2, e4, e8, e9, e11, e14, e15, e16, fun _ => rfl, e18, e19, z2, e20⟩
theorem AddG.s18 {w1 : World} {Z : Nat} {L : List Ent} {x : Ent} {ra la : Option Addr} {rcap lcap : Nat} {d : Nat → Bool} {v : Nat → Value} {w : World} (h : AddG w1 Z L x ra la rcap lcap d v w) : AddG w1 Z L x ra la rcap lcap (fun j => decide (j = 18) || d j) (updV v 44 (.int .i64 ((L.length : Int) + 1))) w := by
  obtain ⟨fr, a, b, e1, e2, e4, e8, e9, e11, e14, e15, e16, e17, e18, e19, z2, e20⟩ := h
  exact ⟨fr, a, b, e1, e2, e4, e8, e9, e11, e14, e15, e16, e17, fun _ => rfl, e19, z2, e20⟩
theorem AddG.s20 {w1 : World} {Z : Nat} {L : List Ent} {x : Ent} {ra la : Option Addr} {rcap lcap : Nat} {d : Nat → Bool} {v : Nat → Value} {w : World} (h : AddG w1 Z L x ra la rcap lcap d v w) : AddG w1 Z L x ra la rcap lcap (fun j => decide (j = 20) || d j) (updV v 7 (.int .i64 ((L.length : Int) + 1))) w := by
  obtain ⟨fr, a, b, e1, e2, e4, e8, e9, e11, e14, e15, e16, e17, e18, e19, z2, e20⟩ := h
  exact ⟨fr, a, b, e1, e2, e4, e8, e9, e11, e14, e15, e16, e17, e18, e19, z2, fun _ => rfl⟩
theorem AddG.s14 {w1 : World} {Z : Nat} {L : List Ent} {x : Ent} {ra la : Option Addr} {rcap lcap : Nat} {d : Nat → Bool} {v : Nat → Value} {w : World} (h : AddG w1 Z L x ra la rcap lcap d v w) (h6 : d 6 = true) (h13 : d 13 = true) : AddG w1 Z L x ra la rcap lcap (fun j => decide (j = 14) || d j) (updV v 40 (.agg #[v 32, v 39])) w := by
  obtain ⟨fr, a, b, e1, e2, e4, e8, e9, e11, e14, e15, e16, e17, e18, e19, z2, e20⟩ := h
  exact ⟨fr, a, b, e1, e2, e4, e8, e9, e11, fun _ => ⟨rfl, h6, h13⟩, e15, e16, e17, e18, e19, z2, e20⟩

/-- The result's block behind an allocation. -/
theorem blk_alloc {w : World} {b : Nat} {o : Obj} (h : w.heap[b]? = some o) (o' : Obj) : (w.alloc o').heap[b]? = some o := (alloc_lt _ _ _ (lt_of_block h)).trans h

theorem ne_typ {w : World} {T T' : TypeId} (hT : T ≠ T') {base size n : Nat} {v : Value} {xs : List Value} (ho : w.ownsRow base T size v n xs) : ∀ k cur f, w.heap[k]? = some (.cells cur T' f) → ¬ v.ownBlock = some k := by
  intro k cur f hk e
  obtain ⟨c, hc⟩ := owns_block ho e
  exact ne_of_types hc hk hT rfl

theorem AddG.s0 {w1 : World} {Z : Nat} {L : List Ent} {x : Ent} {ra la : Option Addr} {rcap lcap : Nat} {d : Nat → Bool} {v : Nat → Value} {w : World} (h : AddG w1 Z L x ra la rcap lcap d v w) (h0 : d 0 = false) : AddG w1 Z L x ra la rcap lcap (fun j => decide (j = 0) || d j) (updV v 26 (.slice (some ⟨w.heap.size, 0, none⟩) 0 0)) (w.alloc (.cells #[] 132 (0, 0))) := by
  obtain ⟨fr, a, b, e1, e2, e4, e8, e9, e11, e14, e15, e16, e17, e18, e19, z2, e20⟩ := h
  exact ⟨fr.alloc _, a.stepP h0 fr.size, b.alloc _, e1, e2, e4, e8, e9, e11, e14, e15, e16, e17, e18, fun hd => ⟨blk_alloc (e19 hd).1 _, (e19 hd).2⟩, fun hd => blk_alloc (z2 hd) _, e20⟩
theorem AddG.s5 {w1 : World} {Z : Nat} {L : List Ent} {x : Ent} {ra la : Option Addr} {rcap lcap : Nat} {d : Nat → Bool} {v : Nat → Value} {w : World} (h : AddG w1 Z L x ra la rcap lcap d v w) (h0 : d 5 = false) : AddG w1 Z L x ra la rcap lcap (fun j => decide (j = 5) || d j) (updV v 31 (.slice (some ⟨w.heap.size, 0, none⟩) 1 1)) (w.alloc (.cells #[.int .i64 x.rule.kind, .int .u8 x.rule.letter, .int .i64 x.rule.left, .int .i64 x.rule.right, .int .i64 x.rule.times] 132 (0, 0))) := by
  obtain ⟨fr, a, b, e1, e2, e4, e8, e9, e11, e14, e15, e16, e17, e18, e19, z2, e20⟩ := h
  exact ⟨fr.alloc _, a.stepR h0, b.alloc _, e1, e2, e4, e8, e9, e11, e14, e15, e16, e17, e18, fun hd => ⟨blk_alloc (e19 hd).1 _, (e19 hd).2⟩, fun hd => blk_alloc (z2 hd) _, e20⟩
theorem AddG.s7 {w1 : World} {Z : Nat} {L : List Ent} {x : Ent} {ra la : Option Addr} {rcap lcap : Nat} {d : Nat → Bool} {v : Nat → Value} {w : World} (h : AddG w1 Z L x ra la rcap lcap d v w) (h0 : d 7 = false) : AddG w1 Z L x ra la rcap lcap (fun j => decide (j = 7) || d j) (updV v 33 (.slice (some ⟨w.heap.size, 0, none⟩) 0 0)) (w.alloc (.cells #[] 3 (0, 0))) := by
  obtain ⟨fr, a, b, e1, e2, e4, e8, e9, e11, e14, e15, e16, e17, e18, e19, z2, e20⟩ := h
  exact ⟨fr.alloc _, a.alloc _, b.stepP h0 fr.size, e1, e2, e4, e8, e9, e11, e14, e15, e16, e17, e18, fun hd => ⟨blk_alloc (e19 hd).1 _, (e19 hd).2⟩, fun hd => blk_alloc (z2 hd) _, e20⟩
theorem AddG.s12 {w1 : World} {Z : Nat} {L : List Ent} {x : Ent} {ra la : Option Addr} {rcap lcap : Nat} {d : Nat → Bool} {v : Nat → Value} {w : World} (h : AddG w1 Z L x ra la rcap lcap d v w) (h0 : d 12 = false) : AddG w1 Z L x ra la rcap lcap (fun j => decide (j = 12) || d j) (updV v 38 (.slice (some ⟨w.heap.size, 0, none⟩) 1 1)) (w.alloc (.cells #[.int .i64 x.wt.len] 3 (0, 0))) := by
  obtain ⟨fr, a, b, e1, e2, e4, e8, e9, e11, e14, e15, e16, e17, e18, e19, z2, e20⟩ := h
  exact ⟨fr.alloc _, a.alloc _, b.stepR h0, e1, e2, e4, e8, e9, e11, e14, e15, e16, e17, e18, fun hd => ⟨blk_alloc (e19 hd).1 _, (e19 hd).2⟩, fun hd => blk_alloc (z2 hd) _, e20⟩
theorem AddG.s3 {w1 : World} {Z : Nat} {L : List Ent} {x : Ent} {ra la : Option Addr} {rcap lcap : Nat} {d : Nat → Bool} {v : Nat → Value} {w : World} (h : AddG w1 Z L x ra la rcap lcap d v w) (h0 : d 3 = false) (hp : d 0 = true) {v2 : Value} {w2 : World} (h1 : w2.ownsRow w1.heap.size 132 5 v2 (0 + L.length) ([] ++ L.flatMap rlv)) (hg : w.grownBy w2 (v 26).ownBlock) (hat : v2.ownBlock = (v 26).ownBlock ∨ v2.ownBlock = some w.heap.size) : AddG w1 Z L x ra la rcap lcap (fun j => decide (j = 3) || d j) (updV v 29 v2) w2 := by
  obtain ⟨fr, a, b, e1, e2, e4, e8, e9, e11, e14, e15, e16, e17, e18, e19, z2, e20⟩ := h
  have hown := a.cp hp h0
  exact ⟨Fr.grown fr hg (fun k hk hlt => by have := (hown.lt k hk).1; omega), a.stepQ hp h0 h1 hg hat, b.kept (grown_fr hg) (fun k cur hk e => ne_typ (by decide) hown k cur _ hk e), e1, e2, e4, e8, e9, e11, e14, e15, e16, e17, e18, fun hd => ⟨(grown_fr hg).kept (e19 hd).1 (fun e => ne_typ (by decide) hown _ _ _ (e19 hd).1 e), (e19 hd).2⟩, fun hd => (grown_fr hg).kept (z2 hd) (fun e => ne_typ (by decide) hown _ _ _ (z2 hd) e), e20⟩
theorem AddG.s6 {w1 : World} {Z : Nat} {L : List Ent} {x : Ent} {ra la : Option Addr} {rcap lcap : Nat} {d : Nat → Bool} {v : Nat → Value} {w : World} (h : AddG w1 Z L x ra la rcap lcap d v w) (h0 : d 6 = false) (hq : d 3 = true) (hr : d 5 = true) {v2 : Value} {w2 : World} (h1 : w2.ownsRow w1.heap.size 132 5 v2 (L.length + 1) (L.flatMap rlv ++ rlv x)) (hg : w.grownBy w2 (v 29).ownBlock) : AddG w1 Z L x ra la rcap lcap (fun j => decide (j = 6) || d j) (updV v 32 v2) w2 := by
  obtain ⟨fr, a, b, e1, e2, e4, e8, e9, e11, e14, e15, e16, e17, e18, e19, z2, e20⟩ := h
  have hown := a.cq hq h0
  exact ⟨Fr.grown fr hg (fun k hk hlt => by have := (hown.lt k hk).1; omega), a.stepZ hq hr h1, b.kept (grown_fr hg) (fun k cur hk e => ne_typ (by decide) hown k cur _ hk e), e1, e2, e4, e8, e9, e11, fun hd => absurd (e14 hd).2.1 (by rw [h0]; simp), e15, e16, e17, e18, fun hd => absurd (e19 hd).2.1 (by rw [h0]; simp), fun hd => (grown_fr hg).kept (z2 hd) (fun e => ne_typ (by decide) hown _ _ _ (z2 hd) e), e20⟩
theorem AddG.s10 {w1 : World} {Z : Nat} {L : List Ent} {x : Ent} {ra la : Option Addr} {rcap lcap : Nat} {d : Nat → Bool} {v : Nat → Value} {w : World} (h : AddG w1 Z L x ra la rcap lcap d v w) (h0 : d 10 = false) (hp : d 7 = true) {v2 : Value} {w2 : World} (h1 : w2.ownsRow w1.heap.size 3 1 v2 (0 + L.length) ([] ++ L.flatMap lnv)) (hg : w.grownBy w2 (v 33).ownBlock) (hat : v2.ownBlock = (v 33).ownBlock ∨ v2.ownBlock = some w.heap.size) : AddG w1 Z L x ra la rcap lcap (fun j => decide (j = 10) || d j) (updV v 36 v2) w2 := by
  obtain ⟨fr, a, b, e1, e2, e4, e8, e9, e11, e14, e15, e16, e17, e18, e19, z2, e20⟩ := h
  have hown := b.cp hp h0
  exact ⟨Fr.grown fr hg (fun k hk hlt => by have := (hown.lt k hk).1; omega), a.kept (grown_fr hg) (fun k cur hk e => ne_typ (by decide) hown k cur _ hk e), b.stepQ hp h0 h1 hg hat, e1, e2, e4, e8, e9, e11, e14, e15, e16, e17, e18, fun hd => ⟨(grown_fr hg).kept (e19 hd).1 (fun e => ne_typ (by decide) hown _ _ _ (e19 hd).1 e), (e19 hd).2⟩, fun hd => (grown_fr hg).kept (z2 hd) (fun e => ne_typ (by decide) hown _ _ _ (z2 hd) e), e20⟩
theorem AddG.s13 {w1 : World} {Z : Nat} {L : List Ent} {x : Ent} {ra la : Option Addr} {rcap lcap : Nat} {d : Nat → Bool} {v : Nat → Value} {w : World} (h : AddG w1 Z L x ra la rcap lcap d v w) (h0 : d 13 = false) (hq : d 10 = true) (hr : d 12 = true) {v2 : Value} {w2 : World} (h1 : w2.ownsRow w1.heap.size 3 1 v2 (L.length + 1) (L.flatMap lnv ++ lnv x)) (hg : w.grownBy w2 (v 36).ownBlock) : AddG w1 Z L x ra la rcap lcap (fun j => decide (j = 13) || d j) (updV v 39 v2) w2 := by
  obtain ⟨fr, a, b, e1, e2, e4, e8, e9, e11, e14, e15, e16, e17, e18, e19, z2, e20⟩ := h
  have hown := b.cq hq h0
  exact ⟨Fr.grown fr hg (fun k hk hlt => by have := (hown.lt k hk).1; omega), a.kept (grown_fr hg) (fun k cur hk e => ne_typ (by decide) hown k cur _ hk e), b.stepZ hq hr h1, e1, e2, e4, e8, e9, e11, fun hd => absurd (e14 hd).2.2 (by rw [h0]; simp), e15, e16, e17, e18, fun hd => absurd (e19 hd).2.2 (by rw [h0]; simp), fun hd => (grown_fr hg).kept (z2 hd) (fun e => ne_typ (by decide) hown _ _ _ (z2 hd) e), e20⟩
theorem AddG.s19 {w1 : World} {Z : Nat} {L : List Ent} {x : Ent} {ra la : Option Addr} {rcap lcap : Nat} {d : Nat → Bool} {v : Nat → Value} {w : World} (h : AddG w1 Z L x ra la rcap lcap d v w) (h0 : d 19 = false) (h6 : d 6 = true) (h13 : d 13 = true) : AddG w1 Z L x ra la rcap lcap (fun j => decide (j = 19) || d j) (v) ((w.setCell ⟨Z + 1 + 1, 0, none⟩ (v 32)).setCell ⟨Z + 1 + 1, 1, none⟩ (v 39)) := by
  obtain ⟨fr, a, b, e1, e2, e4, e8, e9, e11, e14, e15, e16, e17, e18, e19, z2, e20⟩ := h
  have hb := z2 h0
  have hS : Fr (fun k => k = Z + 1 + 1) w ((w.setCell ⟨Z + 1 + 1, 0, none⟩ (v 32)).setCell ⟨Z + 1 + 1, 1, none⟩ (v 39)) := ((Fr.refl (fun k => k = Z + 1 + 1) w).setCell _ _ (fun _ => rfl)).setCell _ _ (fun _ => rfl)
  refine ⟨Fr.trans fr hS (fun i e _ => e), a.kept hS (fun k cur hk e => ?_), b.kept hS (fun k cur hk e => ?_), e1, e2, e4, e8, e9, e11, e14, e15, e16, e17, e18, fun _ => ⟨setCell_block (setCell_block hb 0 _) 1 _, h6, h13⟩, fun hd => (by cases hd), e20⟩
  · exact ne_of_types hk hb (by decide) e
  · exact ne_of_types hk hb (by decide) e

end Go.Proofs.YtclpndigmidjkaaGreat

/- Words and small laws of this claim's own: what a call may have written ('Fr'), and how lists of structs lie in cells. -/
import Derived.WalkKit
import Derived.WalkSpells
import Derived.WalkLawsBesides
import Derived.Lib.Hide
import Derived.Deep.AppendLies
import Derived.Test.YtodmpcnpedpheaaDoorChecked
import Derived.Laws.StructEq
set_option linter.unusedSimpArgs false
set_option linter.unusedVariables false
namespace Go.Proofs.YtodmpcnpedpheaaDoor
open Go.RowKit

/-- w' is w but for new blocks and for blocks in S. -/
structure Fr (S : Nat → Prop) (w w' : World) : Prop where
  os : w'.os = w.os
  tape : w'.tape = w.tape
  output : w'.output = w.output
  size : w.heap.size ≤ w'.heap.size
  block : ∀ k, k < w.heap.size → ¬ S k → w'.heap[k]? = w.heap[k]?

theorem Fr.refl (S : Nat → Prop) (w : World) : Fr S w w := ⟨rfl, rfl, rfl, Nat.le_refl _, fun _ _ _ => rfl⟩

theorem Fr.trans {S S' : Nat → Prop} {a b c : World} (h : Fr S a b) (k : Fr S' b c) (hS : ∀ i, S' i → i < a.heap.size → S i) : Fr S a c :=
  ⟨k.os.trans h.os, k.tape.trans h.tape, k.output.trans h.output, Nat.le_trans h.size k.size,
    fun i hi hn => (k.block i (Nat.lt_of_lt_of_le hi h.size) (fun hs => hn (hS i hs hi))).trans (h.block i hi hn)⟩

theorem Fr.mono {S S' : Nat → Prop} {a b : World} (h : Fr S a b) (hS : ∀ i, S i → i < a.heap.size → S' i) : Fr S' a b :=
  ⟨h.os, h.tape, h.output, h.size, fun i hi hn => h.block i hi (fun hs => hn (hS i hs hi))⟩

theorem Fr.drew {S : Nat → Prop} {a w : World} (h : Fr S a w) : Fr S a w.drew := ⟨h.os, h.tape, h.output, h.size, h.block⟩

theorem Fr.drewN {S : Nat → Prop} {a w : World} (h : Fr S a w) (n : Nat) : Fr S a (w.drewN n) := ⟨h.os, h.tape, h.output, h.size, h.block⟩

theorem Fr.alloc {S : Nat → Prop} {a w : World} (h : Fr S a w) (o : Obj) : Fr S a (w.alloc o) :=
  ⟨h.os, h.tape, h.output, by have := h.size; simp; omega, fun i hi hn => (Below.heap_alloc _ _ _ (Nat.lt_of_lt_of_le hi h.size)).trans (h.block i hi hn)⟩

theorem Fr.setCell {S : Nat → Prop} {a w : World} (h : Fr S a w) (p : Addr) (u : Value) (hp : p.block < a.heap.size → S p.block) : Fr S a (w.setCell p u) :=
  ⟨h.os, h.tape, h.output, by simpa [World.setCell] using h.size, fun i hi hn => by
    by_cases e : i = p.block
    · subst e; exact absurd (hp hi) hn
    · rw [Below.heap_setCell _ _ _ _ e]; exact h.block i hi hn⟩

theorem Fr.grown {S : Nat → Prop} {a w w' : World} {row : Option Nat} (h : Fr S a w) (hg : w.grownBy w' row) (hr : ∀ k, row = some k → k < a.heap.size → S k) : Fr S a w' :=
  h.trans (S' := fun k => row = some k) ⟨hg.os, hg.tape, hg.output, hg.size, fun k hk hn => hg.block k hk (fun e => hn e.symm)⟩ hr

theorem Fr.below {B : Nat} {S : Nat → Prop} {w w' : World} (h : Fr S w w') (hB : B ≤ w.heap.size) (hS : ∀ k, S k → B ≤ k) : Below B w w' :=
  ⟨h.os, h.tape, h.output, h.size, fun k hk => h.block k (by omega) (fun hs => by have := hS k hs; omega)⟩

theorem Fr.of_below {B : Nat} {S : Nat → Prop} {w w' : World} (h : Below B w w') (hS : ∀ k, B ≤ k → k < w.heap.size → S k) : Fr S w w' :=
  ⟨h.os, h.tape, h.output, h.size, fun k hk hn => h.block k (by
    rcases Nat.lt_or_ge k B with hlt | hge
    · exact hlt
    · exact absurd (hS k hge hk) hn)⟩

theorem Fr.cell {S : Nat → Prop} {w w' : World} (h : Fr S w w') (p : Addr) (hp : p.block < w.heap.size) (hn : ¬ S p.block) : w'.cell? p = w.cell? p :=
  World.cell?_of_block (h.block _ hp hn)

theorem lt_of_block {w : World} {b : Nat} {o : Obj} (h : w.heap[b]? = some o) : b < w.heap.size := (Array.getElem?_eq_some_iff.1 h).1

theorem Fr.kept {S : Nat → Prop} {w w' : World} (h : Fr S w w') {b : Nat} {o : Obj} (hb : w.heap[b]? = some o) (hn : ¬ S b) : w'.heap[b]? = some o := by
  rw [h.block b (lt_of_block hb) hn]; exact hb

theorem Fr.owns {S : Nat → Prop} {w w' : World} (h : Fr S w w') {base : Nat} {e : TypeId} {size : Nat} {v : Value} {n : Nat} {xs : List Value}
    (ho : w.ownsRow base e size v n xs) (hn : ∀ k, v.ownBlock = some k → ¬ S k) : w'.ownsRow base e size v n xs := by
  refine ⟨ho.1, ?_⟩
  rcases ho.2 with hx | ⟨g, cap, cur, rfl, hb, hg, r⟩
  · exact .inl hx
  · exact .inr ⟨g, cap, cur, rfl, hb, h.kept hg (hn g rfl), r⟩

theorem alloc_at (w : World) (o : Obj) (k : Nat) (hk : k = w.heap.size) : (w.alloc o).heap[k]? = some o := by
  subst hk; exact heap_alloc_new w o
theorem alloc_lt (w : World) (o : Obj) (k : Nat) (hk : k < w.heap.size) : (w.alloc o).heap[k]? = w.heap[k]? := Below.heap_alloc w o k hk

theorem alloc2_0 (w : World) (a b : Obj) : ((w.alloc a).alloc b).heap[w.heap.size]? = some a := by
  rw [alloc_lt _ _ _ (by simp)]; exact alloc_at _ _ _ rfl
theorem alloc2_1 (w : World) (a b : Obj) : ((w.alloc a).alloc b).heap[w.heap.size + 1]? = some b := alloc_at _ _ _ (by simp)
theorem alloc3_0 (w : World) (a b c : Obj) : (((w.alloc a).alloc b).alloc c).heap[w.heap.size]? = some a := by
  rw [alloc_lt _ _ _ (by simp; omega)]; exact alloc2_0 _ _ _
theorem alloc3_1 (w : World) (a b c : Obj) : (((w.alloc a).alloc b).alloc c).heap[w.heap.size + 1]? = some b := by
  rw [alloc_lt _ _ _ (by simp)]; exact alloc2_1 _ _ _
theorem alloc3_2 (w : World) (a b c : Obj) : (((w.alloc a).alloc b).alloc c).heap[w.heap.size + 2]? = some c := alloc_at _ _ _ (by simp)

/-- A cell of a block that is known whole. -/
theorem cell_of_block {w : World} {b : Nat} {cs : Array Value} {t : TypeId} {f : Nat × Nat} (h : w.heap[b]? = some (.cells cs t f)) (o : Nat) : w.cell? ⟨b, o, none⟩ = cs[o]? := by
  simp [World.cell?, h]

theorem frozen_of_block {w : World} {b : Nat} {cs : Array Value} {t : TypeId} (h : w.heap[b]? = some (.cells cs t (0, 0))) (o : Nat) : w.frozen? ⟨b, o, none⟩ = false := by
  simp [World.frozen?, h]

theorem setCell_block {w : World} {b : Nat} {cs : Array Value} {t : TypeId} {f : Nat × Nat} (h : w.heap[b]? = some (.cells cs t f)) (o : Nat) (v : Value) :
    (w.setCell ⟨b, o, none⟩ v).heap[b]? = some (.cells (cs.setIfInBounds o v) t f) := by
  simp [World.setCell, Array.getElem?_modify, h]

theorem setCell_other {w : World} {b : Nat} (p : Addr) (v : Value) (hne : b ≠ p.block) : (w.setCell p v).heap[b]? = w.heap[b]? := Below.heap_setCell _ _ _ _ hne

end Go.Proofs.YtodmpcnpedpheaaDoor

/- Plain words for the rules of a store and how they lie in cells. No program. -/
set_option linter.unusedSimpArgs false
set_option linter.unusedVariables false
namespace Go.Proofs.YtodmpcnpedpheaaDoor
open Go.RowKit

/-- 2^61 - 1 -/
def PP : Int := 2305843009213693951

structure Rl where
  kind : Int
  letter : Int
  left : Int
  right : Int
  times : Int
deriving DecidableEq, Inhabited

structure Wt where
  len : Int
  lines : Int
  head : Int
  tail : Int
  val : Int
  scale : Int
deriving DecidableEq, Inhabited

structure Ent where
  rule : Rl
  wt : Wt
  depth : Int
  even : Bool
deriving DecidableEq, Inhabited

def Rl.vals (r : Rl) : List Value := [.int .i64 r.kind, .int .u8 r.letter, .int .i64 r.left, .int .i64 r.right, .int .i64 r.times]
def Wt.vals (t : Wt) : List Value := [.int .i64 t.len, .int .i64 t.lines, .int .i64 t.head, .int .i64 t.tail, .int .u64 t.val, .int .u64 t.scale]
def Ent.vals (e : Ent) : List Value := [.int .i64 e.rule.kind, .int .u8 e.rule.letter, .int .i64 e.rule.left, .int .i64 e.rule.right, .int .i64 e.rule.times,
  .int .i64 e.wt.len, .int .i64 e.wt.lines, .int .i64 e.wt.head, .int .i64 e.wt.tail, .int .u64 e.wt.val, .int .u64 e.wt.scale, .int .i64 e.depth, .bool e.even]

/-- The fields of a weight fit each other. -/
structure WOk (t : Wt) : Prop where
  len0 : 0 ≤ t.len
  len1 : t.len ≤ 1152921504606846976
  lines0 : 0 ≤ t.lines
  one : t.lines = 0 → t.head = t.len ∧ t.tail = t.len
  more : t.lines ≠ 0 → 0 ≤ t.head ∧ 0 ≤ t.tail ∧ t.lines ≤ t.len - t.head - t.tail ∧ (t.lines = 1 → t.len - t.head - t.tail = 1)
  val0 : 0 ≤ t.val
  val1 : t.val < 2305843009213693951
  empty : t.len = 0 → t.val = 0
  scale : t.scale = 1103515245 ^ t.len.toNat % PP

theorem WOk.scale0 {t : Wt} (h : WOk t) : 0 ≤ t.scale ∧ t.scale < 2305843009213693951 := by
  rw [h.scale]; unfold PP; omega

def Wt.unit : Wt := ⟨0, 0, 0, 0, 0, 1⟩
def Wt.letter (b : Int) : Wt := if b = 10 then ⟨1, 1, 0, 0, b + 1, 1103515245⟩ else ⟨1, 0, 1, 1, b + 1, 1103515245⟩
def Wt.join (a b : Wt) : Wt :=
  ⟨a.len + b.len, a.lines + b.lines, if a.lines = 0 then a.len + b.head else a.head, if b.lines = 0 then b.len + a.tail else b.tail, (a.val * b.scale % PP + b.val) % PP, a.scale * b.scale % PP⟩

theorem WOk.unit : WOk Wt.unit := by
  constructor <;> simp [Wt.unit, PP]

theorem WOk.letter (b : Int) (h0 : 0 ≤ b) (h1 : b < 256) : WOk (Wt.letter b) := by
  unfold Wt.letter
  split <;> constructor <;> simp [PP] <;> omega

theorem pow_add_mod (a b : Int) (ha : 0 ≤ a) (hb : 0 ≤ b) : (1103515245 : Int) ^ a.toNat % PP * (1103515245 ^ b.toNat % PP) % PP = 1103515245 ^ (a + b).toNat % PP := by
  rw [← Int.mul_emod, ← Int.pow_add, Int.toNat_add ha hb]

theorem WOk.join {a b : Wt} (ha : WOk a) (hb : WOk b) (h : a.len + b.len ≤ 1152921504606846976) : WOk (a.join b) := by
  obtain ⟨a1, a2, a3, a4, a5, a6, a7, a8, a9⟩ := ha
  obtain ⟨b1, b2, b3, b4, b5, b6, b7, b8, b9⟩ := hb
  obtain ⟨al, an, ah, at', av, as'⟩ := a
  obtain ⟨bl, bn, bh, bt, bv, bs⟩ := b
  simp only at *
  constructor
  · simp only [Wt.join]; omega
  · simp only [Wt.join]; omega
  · simp only [Wt.join]; omega
  · simp only [Wt.join]; intro h0
    have e1 : an = 0 := by omega
    have e2 : bn = 0 := by omega
    simp only [e1, e2, if_true]; have := a4 e1; have := b4 e2; omega
  · simp only [Wt.join]; intro h0
    by_cases e1 : an = 0 <;> by_cases e2 : bn = 0
    · omega
    · have := a4 e1; have := b5 e2; simp only [e1, e2, if_true, if_false]; omega
    · have := a5 e1; have := b4 e2; simp only [e1, e2, if_true, if_false]; omega
    · have := a5 e1; have := b5 e2; simp only [e1, e2, if_false]; omega
  · simp only [Wt.join]; unfold PP; omega
  · simp only [Wt.join]; unfold PP; omega
  · simp only [Wt.join]; intro h0
    have e1 : al = 0 := by omega
    have e2 : bl = 0 := by omega
    rw [a8 e1, b8 e2]; simp
  · simp only [Wt.join]
    rw [a9, b9, pow_add_mod al bl a1 b1]

/-- Digests as pairs. -/
def djoin (a b : Int × Int) : Int × Int := ((a.1 * b.2 % PP + b.1) % PP, a.2 * b.2 % PP)
def dpow (d : Int × Int) : Nat → Int × Int
  | 0 => (0, 1)
  | k + 1 => djoin (dpow d k) d
def dred (d : Int × Int) : Prop := (0 ≤ d.1 ∧ d.1 < 2305843009213693951) ∧ (0 ≤ d.2 ∧ d.2 < 2305843009213693951)

theorem dred_join (a b : Int × Int) : dred (djoin a b) := by unfold dred djoin PP; omega
theorem dred_pow (d : Int × Int) (k : Nat) : dred (dpow d k) := by
  cases k with
  | zero => simp [dpow, dred]
  | succ k => exact dred_join _ _

theorem mod_of {x : Int} (h : 0 ≤ x) (h' : x < 2305843009213693951) : x % PP = x := Int.emod_eq_of_lt h h'

theorem djoin_assoc (a b c : Int × Int) : djoin (djoin a b) c = djoin a (djoin b c) := by
  unfold djoin
  refine Prod.ext ?_ ?_
  · show (((a.1 * b.2 % PP + b.1) % PP) * c.2 % PP + c.1) % PP = (a.1 * (b.2 * c.2 % PP) % PP + (b.1 * c.2 % PP + c.1) % PP) % PP
    have e1 : ((a.1 * b.2 % PP + b.1) % PP) * c.2 % PP = (a.1 * b.2 * c.2 + b.1 * c.2) % PP := by
      rw [Int.mul_emod, Int.emod_emod, Int.add_emod, Int.emod_emod, ← Int.add_emod, ← Int.mul_emod, Int.add_mul]
    have e2 : a.1 * (b.2 * c.2 % PP) % PP = a.1 * b.2 * c.2 % PP := by
      rw [Int.mul_emod, Int.emod_emod, ← Int.mul_emod, Int.mul_assoc]
    rw [e1, e2]
    generalize a.1 * b.2 * c.2 = x
    generalize b.1 * c.2 = y
    generalize c.1 = z
    unfold PP
    omega
  · show (a.2 * b.2 % PP) * c.2 % PP = a.2 * (b.2 * c.2 % PP) % PP
    rw [Int.mul_emod, Int.emod_emod, ← Int.mul_emod, Int.mul_emod a.2, Int.emod_emod, ← Int.mul_emod, Int.mul_assoc]

theorem djoin_unit_left {d : Int × Int} (h : dred d) : djoin (0, 1) d = d := by
  unfold djoin
  obtain ⟨⟨h1, h2⟩, h3, h4⟩ := h
  refine Prod.ext ?_ ?_
  · show (0 * d.2 % PP + d.1) % PP = d.1
    rw [Int.zero_mul, Int.zero_emod, Int.zero_add, mod_of h1 h2]
  · show 1 * d.2 % PP = d.2
    rw [Int.one_mul, mod_of h3 h4]

theorem djoin_unit_right {d : Int × Int} (h : dred d) : djoin d (0, 1) = d := by
  unfold djoin
  obtain ⟨⟨h1, h2⟩, h3, h4⟩ := h
  refine Prod.ext ?_ ?_
  · show (d.1 * 1 % PP + 0) % PP = d.1
    rw [Int.mul_one, Int.add_zero, Int.emod_emod, mod_of h1 h2]
  · show d.2 * 1 % PP = d.2
    rw [Int.mul_one, mod_of h3 h4]

theorem dpow_add (d : Int × Int) (hd : dred d) (m n : Nat) : dpow d (m + n) = djoin (dpow d m) (dpow d n) := by
  induction n with
  | zero => exact (djoin_unit_right (dred_pow d m)).symm
  | succ n ih => show djoin (dpow d (m + n)) d = djoin (dpow d m) (djoin (dpow d n) d); rw [ih, djoin_assoc]

theorem dpow_double (d : Int × Int) (hd : dred d) (k : Nat) : dpow (djoin d d) k = dpow d (2 * k) := by
  induction k with
  | zero => rfl
  | succ k ih =>
    show djoin (dpow (djoin d d) k) (djoin d d) = djoin (djoin (dpow d (2 * k)) d) d
    rw [ih, djoin_assoc]

theorem dpow_scale (d : Int × Int) (k : Nat) : (dpow d k).2 = d.2 ^ k % PP := by
  induction k with
  | zero => show (1 : Int) = d.2 ^ 0 % PP; rw [Int.pow_zero]; rfl
  | succ k ih => show (dpow d k).2 * d.2 % PP = _; rw [ih, Int.pow_succ, Int.mul_emod, Int.emod_emod, ← Int.mul_emod]

theorem powm {a : Int} {k : Nat} : (a % PP) ^ k % PP = a ^ k % PP := by
  induction k with
  | zero => rw [Int.pow_zero, Int.pow_zero]
  | succ k ih => rw [Int.pow_succ, Int.pow_succ, Int.mul_emod, ih, Int.emod_emod, ← Int.mul_emod]

def Wt.rep (t : Wt) (k : Int) : Wt :=
  ⟨t.len * k, t.lines * k, if t.lines = 0 then t.len * k else t.head, if t.lines = 0 then t.len * k else t.tail, (dpow (t.val, t.scale) k.toNat).1, (dpow (t.val, t.scale) k.toNat).2⟩

theorem WOk.dred {t : Wt} (h : WOk t) : dred (t.val, t.scale) := ⟨⟨h.val0, h.val1⟩, h.scale0⟩

theorem WOk.rep {t : Wt} (ht : WOk t) (k : Int) (hk : 1 ≤ k) (h : t.len * k ≤ 1152921504606846976) (hl : 1 ≤ t.len) : WOk (t.rep k) := by
  obtain ⟨n, rfl⟩ := Int.eq_ofNat_of_zero_le (a := k) (by omega)
  have hr := dred_pow (t.val, t.scale) n
  have hs := dpow_scale (t.val, t.scale) n
  obtain ⟨a1, a2, a3, a4, a5, a6, a7, a8, a9⟩ := ht
  obtain ⟨al, an, ah, at', av, as'⟩ := t
  simp only at *
  have hp : al * 1 ≤ al * (n : Int) := Int.mul_le_mul_of_nonneg_left hk (by omega)
  have hq : an * 1 ≤ an * (n : Int) := Int.mul_le_mul_of_nonneg_left hk (by omega)
  constructor
  · simp only [Wt.rep]; omega
  · simp only [Wt.rep]; omega
  · simp only [Wt.rep]; omega
  · simp only [Wt.rep]; intro h0
    have e1 : an = 0 := by omega
    simp only [e1, if_true]; exact ⟨trivial, trivial⟩
  · simp only [Wt.rep]; intro h0
    by_cases e1 : an = 0
    · simp [e1] at h0
    · obtain ⟨b1, b2, b3, b4⟩ := a5 e1
      simp only [e1, if_false]
      refine ⟨b1, b2, ?_, ?_⟩
      · have h3 : (an + ah + at') * (n : Int) ≤ al * (n : Int) := Int.mul_le_mul_of_nonneg_right (by omega) (by omega)
        have h4 : ah * 1 ≤ ah * (n : Int) := Int.mul_le_mul_of_nonneg_left hk b1
        have h5 : at' * 1 ≤ at' * (n : Int) := Int.mul_le_mul_of_nonneg_left hk b2
        rw [Int.add_mul, Int.add_mul] at h3
        omega
      · intro h1
        have e2 : an = 1 := by omega
        have e3 : (n : Int) = 1 := by rw [e2] at h1; omega
        rw [e3]; have := b4 e2; omega
  · exact hr.1.1
  · exact hr.1.2
  · simp only [Wt.rep]; intro h0; omega
  · simp only [Wt.rep, Int.toNat_natCast]
    rw [hs]
    show as' ^ n % PP = _
    rw [a9, powm, ← Int.pow_mul]
    congr 2
    have : al * (n : Int) = ((al.toNat * n : Nat) : Int) := by rw [Int.natCast_mul, Int.toNat_of_nonneg a1]
    rw [this, Int.toNat_natCast]

/-- The cells of a list of entries. -/
def entCells (L : List Ent) : List Value := L.flatMap Ent.vals

theorem flat_get {α : Type} (f : α → List Value) (m : Nat) : ∀ (L : List α), (∀ x ∈ L, (f x).length = m) → ∀ (i j : Nat) (hj : j < m) (x : α), L[i]? = some x → (L.flatMap f)[i * m + j]? = (f x)[j]? := by
  intro L
  induction L with
  | nil => intro _ i j hj x h; simp at h
  | cons y r ih =>
    intro hm i j hj x h
    have hy : (f y).length = m := hm y (by simp)
    cases i with
    | zero =>
      simp at h
      subst h
      rw [List.flatMap_cons, List.getElem?_append_left (by omega)]
      simp
    | succ i =>
      simp only [List.getElem?_cons_succ] at h
      rw [List.flatMap_cons, List.getElem?_append_right (by rw [hy, Nat.add_mul]; omega)]
      rw [← ih (fun z hz => hm z (by simp [hz])) i j hj x h]
      congr 1
      rw [hy, Nat.add_mul]; omega

theorem flat_len {α : Type} (f : α → List Value) (m : Nat) : ∀ (L : List α), (∀ x ∈ L, (f x).length = m) → (L.flatMap f).length = L.length * m := by
  intro L
  induction L with
  | nil => intro _; simp
  | cons y r ih =>
    intro hm
    rw [List.flatMap_cons, List.length_append, ih (fun z hz => hm z (by simp [hz])), hm y (by simp), List.length_cons, Nat.add_mul]
    omega

/-- A cell of an owned row. -/
theorem owns_cell {w : World} {base : Nat} {e : TypeId} {size : Nat} {n : Nat} {xs : List Value} {g cap : Nat}
    (h : w.ownsRow base e size (.slice (some ⟨g, 0, none⟩) n cap) n xs) (j : Nat) (u : Value) (hu : xs[j]? = some u) : w.cell? ⟨g, j, none⟩ = some u := by
  have := h.cells (g := g) rfl j u hu
  have hadd : (⟨g, 0, none⟩ : Addr).add j = ⟨g, j, none⟩ := by unfold Addr.add; split <;> simp_all
  rwa [hadd] at this

end Go.Proofs.YtodmpcnpedpheaaDoor

/- The map of a store: rules as keys. -/
set_option linter.unusedSimpArgs false
set_option linter.unusedVariables false
namespace Go.Proofs.YtodmpcnpedpheaaDoor
open Go.RowKit

@[reducible] def Rl.V (r : Rl) : Value := .agg #[.int .i64 r.kind, .int .u8 r.letter, .int .i64 r.left, .int .i64 r.right, .int .i64 r.times]

def entriesFrom : Nat → List Ent → List MapEntry
  | _, [] => []
  | i, e :: r => { key := e.rule.V, val := .int .i64 ((i : Int) + 1), born := i } :: entriesFrom (i + 1) r

theorem Rl.eq_iff (a b : Rl) : decide (a = b) = (a.kind == b.kind && (a.letter == b.letter && (a.left == b.left && (a.right == b.right && a.times == b.times)))) := by
  cases a; cases b
  rw [Bool.eq_iff_iff]
  simp

theorem rule_equal (a b : Rl) (w : World) : (Op.equal 112 a.V b.V).run Tryd.prog w = .ok (decide (a = b)) w := by
  rw [Rl.eq_iff]
  simp [Op.equal, Op.maxDepth, go_sem]
  repeat' split
  all_goals simp_all

theorem rule_check_at (em : Bool) (d : Nat) (a : Rl) (w : World) : (Instr.checkKey em (d + 1 + 1) 112 a.V).run Tryd.prog w = .ok () w := by
  simp [Instr.checkKey, go_sem]

theorem rule_check (em : Bool) (a : Rl) (w : World) : (Instr.checkKey em 10000 112 a.V).run Tryd.prog w = .ok () w := rule_check_at em 9998 a w

theorem run_findAsking (r : Rl) (w : World) : ∀ (L : List Ent) (i : Nat),
    (Instr.findAsking 112 r.V (entriesFrom i L) i).run Tryd.prog w = .ok ((L.findIdx? (fun e => decide (r = e.rule))).map fun j => (i + j, Value.int .i64 (((i + j : Nat) : Int) + 1))) w := by
  intro L
  induction L with
  | nil => intro i; rfl
  | cons e rest ih =>
    intro i
    simp only [entriesFrom, Instr.findAsking, Sem.run_bind, rule_equal, Result.andThen_ok, List.findIdx?_cons]
    by_cases h : r = e.rule
    · simp [h]
    · simp only [h, decide_false, Bool.false_eq_true, if_false, ih (i + 1)]
      congr 1
      cases L' : rest.findIdx? (fun e => decide (r = e.rule)) with
      | none => rfl
      | some j =>
        simp only [Option.map_some]
        rw [show i + 1 + j = i + (j + 1) by omega]

theorem run_findKey (r : Rl) (w : World) (L : List Ent) :
    (Instr.findKey 112 r.V (entriesFrom 0 L)).run Tryd.prog w = .ok ((L.findIdx? (fun e => decide (r = e.rule))).map fun j => (j, Value.int .i64 ((j : Int) + 1))) w := by
  have h := run_findAsking r w L 0
  simp only [Nat.zero_add] at h
  cases L with
  | nil => simp [Instr.findKey, entriesFrom, Instr.findNow, go_sem]
  | cons e rest =>
    simp [Instr.findKey, entriesFrom, Instr.findNow, Instr.sameNow, go_sem] at h ⊢
    exact h

/-- Where a rule stands in a list, from 0 on. -/
def ruleIdx (r : Rl) (L : List Ent) : Option Nat := L.findIdx? (fun e => decide (r = e.rule))

theorem run_lookup_some {mb : Nat} {L : List Ent} {c : Nat} (r : Rl) (j : Nat) (w : World) (hm : w.heap[mb]? = some (.map (entriesFrom 0 L).toArray c)) (hj : ruleIdx r L = some j) :
    (Instr.lookup 55 (.map (some mb)) r.V true).run Tryd.prog w = .ok (.tuple #[.int .i64 ((j : Int) + 1), .bool true]) w := by
  unfold ruleIdx at hj
  have h1 := run_findKey r w L
  rw [hj] at h1
  simp [Instr.lookup, go_sem, getObj, Sem.run, hm, rule_check, h1]

theorem run_lookup_none {mb : Nat} {L : List Ent} {c : Nat} (r : Rl) (w : World) (hm : w.heap[mb]? = some (.map (entriesFrom 0 L).toArray c)) (hj : ruleIdx r L = none) :
    (Instr.lookup 55 (.map (some mb)) r.V true).run Tryd.prog w = .ok (.tuple #[.int .i64 0, .bool false]) w := by
  unfold ruleIdx at hj
  have h1 := run_findKey r w L
  rw [hj] at h1
  simp [Instr.lookup, go_sem, getObj, Sem.run, hm, rule_check, h1]

theorem entries_push (e : Ent) : ∀ (L : List Ent) (i : Nat), entriesFrom i (L ++ [e]) = entriesFrom i L ++ [{ key := e.rule.V, val := .int .i64 (((i + L.length : Nat) : Int) + 1), born := i + L.length }] := by
  intro L
  induction L with
  | nil => intro i; simp [entriesFrom]
  | cons x r ih =>
    intro i
    simp only [List.cons_append, entriesFrom, ih (i + 1), List.length_cons]
    rw [show i + 1 + r.length = i + (r.length + 1) by omega]

theorem run_update {mb : Nat} {L : List Ent} (e : Ent) (w : World) (hm : w.heap[mb]? = some (.map (entriesFrom 0 L).toArray L.length)) (hj : ruleIdx e.rule L = none) (n : Int) (hn : n = (L.length : Int) + 1) :
    (Instr.mapUpdate 55 (.map (some mb)) e.rule.V (.int .i64 n)).run Tryd.prog w = .ok () { w with heap := w.heap.setIfInBounds mb (.map (entriesFrom 0 (L ++ [e])).toArray (L ++ [e]).length) } := by
  unfold ruleIdx at hj
  have h1 := run_findKey e.rule w L
  rw [hj] at h1
  subst hn
  rw [entries_push]
  simp [Instr.mapUpdate, go_sem, getObj, setObj, Sem.run, hm, rule_check, h1]

end Go.Proofs.YtodmpcnpedpheaaDoor

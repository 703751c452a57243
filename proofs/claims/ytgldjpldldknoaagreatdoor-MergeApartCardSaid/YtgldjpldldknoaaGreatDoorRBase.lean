/- Words and small laws of this claim's own: what a call may have written ('Fr'), and how lists of structs lie in cells. -/
import Derived.WalkKit
import Derived.WalkSpells
import Derived.WalkLawsBesides
import Derived.Lib.Hide
import Derived.Deep.AppendLies
import Derived.Test.YtgldjpldldknoaaGreatDoorChecked
import Derived.Lib.Mul64
import Derived.Laws.Bits64b
set_option linter.unusedSimpArgs false
set_option linter.unusedVariables false
namespace Go.Proofs.YtgldjpldldknoaaGreatDoor
open Go.RowKit
structure Fr (S : Nat → Prop) (w w' : World) : Prop where
 os : w'.os = w.os
 tape : w'.tape = w.tape
 output : w'.output = w.output
 size : w.heap.size ≤ w'.heap.size
 block : ∀ k, k < w.heap.size → ¬ S k → w'.heap[k]? = w.heap[k]?
theorem Fr.refl (S : Nat → Prop) (w : World) : Fr S w w := ⟨rfl, rfl, rfl, Nat.le_refl _, fun _ _ _ => rfl⟩
theorem Fr.trans {S S' : Nat → Prop} {a b c : World} (h : Fr S a b) (k : Fr S' b c) (hS : ∀ i, S' i → i < a.heap.size → S i) : Fr S a c :=
 ⟨k.os.trans h.os, k.tape.trans h.tape, k.output.trans h.output, Nat.le_trans h.size k.size,
  fun i hi hn => (k.block i (Nat.lt_of_lt_of_le hi h.size) (fun hs => hn (hS i hs hi))).trans (h.block i hi hn)⟩
theorem Fr.mono {S S' : Nat → Prop} {a b : World} (h : Fr S a b) (hS : ∀ i, S i → i < a.heap.size → S' i) : Fr S' a b :=
 ⟨h.os, h.tape, h.output, h.size, fun i hi hn => h.block i hi (fun hs => hn (hS i hs hi))⟩
theorem Fr.drew {S : Nat → Prop} {a w : World} (h : Fr S a w) : Fr S a w.drew := ⟨h.os, h.tape, h.output, h.size, h.block⟩
theorem Fr.drewN {S : Nat → Prop} {a w : World} (h : Fr S a w) (n : Nat) : Fr S a (w.drewN n) := ⟨h.os, h.tape, h.output, h.size, h.block⟩
theorem Fr.alloc {S : Nat → Prop} {a w : World} (h : Fr S a w) (o : Obj) : Fr S a (w.alloc o) :=
 ⟨h.os, h.tape, h.output, by have := h.size; simp; omega, fun i hi hn => (Below.heap_alloc _ _ _ (Nat.lt_of_lt_of_le hi h.size)).trans (h.block i hi hn)⟩
theorem Fr.setCell {S : Nat → Prop} {a w : World} (h : Fr S a w) (p : Addr) (u : Value) (hp : p.block < a.heap.size → S p.block) : Fr S a (w.setCell p u) :=
 ⟨h.os, h.tape, h.output, by simpa [World.setCell] using h.size, fun i hi hn => by
  by_cases e : i = p.block
  · subst e; exact absurd (hp hi) hn
  · rw [Below.heap_setCell _ _ _ _ e]; exact h.block i hi hn⟩
theorem Fr.grown {S : Nat → Prop} {a w w' : World} {row : Option Nat} (h : Fr S a w) (hg : w.grownBy w' row) (hr : ∀ k, row = some k → k < a.heap.size → S k) : Fr S a w' :=
 h.trans (S' := fun k => row = some k) ⟨hg.os, hg.tape, hg.output, hg.size, fun k hk hn => hg.block k hk (fun e => hn e.symm)⟩ hr
theorem Fr.below {B : Nat} {S : Nat → Prop} {w w' : World} (h : Fr S w w') (hB : B ≤ w.heap.size) (hS : ∀ k, S k → B ≤ k) : Below B w w' :=
 ⟨h.os, h.tape, h.output, h.size, fun k hk => h.block k (by omega) (fun hs => by have := hS k hs; omega)⟩
theorem Fr.cell {S : Nat → Prop} {w w' : World} (h : Fr S w w') (p : Addr) (hp : p.block < w.heap.size) (hn : ¬ S p.block) : w'.cell? p = w.cell? p :=
 World.cell?_of_block (h.block _ hp hn)
theorem lt_of_block {w : World} {b : Nat} {o : Obj} (h : w.heap[b]? = some o) : b < w.heap.size := (Array.getElem?_eq_some_iff.1 h).1
theorem Fr.kept {S : Nat → Prop} {w w' : World} (h : Fr S w w') {b : Nat} {o : Obj} (hb : w.heap[b]? = some o) (hn : ¬ S b) : w'.heap[b]? = some o := by
 rw [h.block b (lt_of_block hb) hn]; exact hb
theorem Fr.owns {S : Nat → Prop} {w w' : World} (h : Fr S w w') {base : Nat} {e : TypeId} {size : Nat} {v : Value} {n : Nat} {xs : List Value}
    (ho : w.ownsRow base e size v n xs) (hn : ∀ k, v.ownBlock = some k → ¬ S k) : w'.ownsRow base e size v n xs := by
 refine ⟨ho.1, ?_⟩
 rcases ho.2 with hx | ⟨g, cap, cur, rfl, hb, hg, r⟩
 · exact .inl hx
 · exact .inr ⟨g, cap, cur, rfl, hb, h.kept hg (hn g rfl), r⟩
theorem alloc_at (w : World) (o : Obj) (k : Nat) (hk : k = w.heap.size) : (w.alloc o).heap[k]? = some o := by
 subst hk; exact heap_alloc_new w o
theorem alloc_lt (w : World) (o : Obj) (k : Nat) (hk : k < w.heap.size) : (w.alloc o).heap[k]? = w.heap[k]? := Below.heap_alloc w o k hk
theorem alloc2_0 (w : World) (a b : Obj) : ((w.alloc a).alloc b).heap[w.heap.size]? = some a := by
 rw [alloc_lt _ _ _ (by simp)]; exact alloc_at _ _ _ rfl
theorem alloc2_1 (w : World) (a b : Obj) : ((w.alloc a).alloc b).heap[w.heap.size + 1]? = some b := alloc_at _ _ _ (by simp)
theorem alloc3_0 (w : World) (a b c : Obj) : (((w.alloc a).alloc b).alloc c).heap[w.heap.size]? = some a := by
 rw [alloc_lt _ _ _ (by simp; omega)]; exact alloc2_0 _ _ _
theorem alloc3_1 (w : World) (a b c : Obj) : (((w.alloc a).alloc b).alloc c).heap[w.heap.size + 1]? = some b := by
 rw [alloc_lt _ _ _ (by simp)]; exact alloc2_1 _ _ _
theorem alloc3_2 (w : World) (a b c : Obj) : (((w.alloc a).alloc b).alloc c).heap[w.heap.size + 2]? = some c := alloc_at _ _ _ (by simp)
theorem cell_of_block {w : World} {b : Nat} {cs : Array Value} {t : TypeId} {f : Nat × Nat} (h : w.heap[b]? = some (.cells cs t f)) (o : Nat) : w.cell? ⟨b, o, none⟩ = cs[o]? := by
 simp [World.cell?, h]
theorem frozen_of_block {w : World} {b : Nat} {cs : Array Value} {t : TypeId} (h : w.heap[b]? = some (.cells cs t (0, 0))) (o : Nat) : w.frozen? ⟨b, o, none⟩ = false := by
 simp [World.frozen?, h]
theorem setCell_block {w : World} {b : Nat} {cs : Array Value} {t : TypeId} {f : Nat × Nat} (h : w.heap[b]? = some (.cells cs t f)) (o : Nat) (v : Value) :
    (w.setCell ⟨b, o, none⟩ v).heap[b]? = some (.cells (cs.setIfInBounds o v) t f) := by
 simp [World.setCell, Array.getElem?_modify, h]
theorem setCell_other {w : World} {b : Nat} (p : Addr) (v : Value) (hne : b ≠ p.block) : (w.setCell p v).heap[b]? = w.heap[b]? := Below.heap_setCell _ _ _ _ hne
end Go.Proofs.YtgldjpldldknoaaGreatDoor
/- Plain words for the rules of a store and how they lie in cells. No program. -/
set_option linter.unusedSimpArgs false
set_option linter.unusedVariables false
namespace Go.Proofs.YtgldjpldldknoaaGreatDoor
open Go.RowKit
def PP : Int := 2305843009213693951
structure Rl where
 kind : Int
 letter : Int
 left : Int
 right : Int
 times : Int
deriving DecidableEq, Inhabited
structure Wt where
 len : Int
 lines : Int
 head : Int
 tail : Int
 val : Int
 scale : Int
deriving DecidableEq, Inhabited
structure Ent where
 rule : Rl
 wt : Wt
 depth : Int
 even : Bool
deriving DecidableEq, Inhabited
def Rl.vals (r : Rl) : List Value := [.int .i64 r.kind, .int .u8 r.letter, .int .i64 r.left, .int .i64 r.right, .int .i64 r.times]
def Wt.vals (t : Wt) : List Value := [.int .i64 t.len, .int .i64 t.lines, .int .i64 t.head, .int .i64 t.tail, .int .u64 t.val, .int .u64 t.scale]
def Ent.vals (e : Ent) : List Value := [.int .i64 e.rule.kind, .int .u8 e.rule.letter, .int .i64 e.rule.left, .int .i64 e.rule.right, .int .i64 e.rule.times,
 .int .i64 e.wt.len, .int .i64 e.wt.lines, .int .i64 e.wt.head, .int .i64 e.wt.tail, .int .u64 e.wt.val, .int .u64 e.wt.scale, .int .i64 e.depth, .bool e.even]
structure WOk (t : Wt) : Prop where
 len0 : 0 ≤ t.len
 len1 : t.len ≤ 1152921504606846976
 lines0 : 0 ≤ t.lines
 one : t.lines = 0 → t.head = t.len ∧ t.tail = t.len
 more : t.lines ≠ 0 → 0 ≤ t.head ∧ 0 ≤ t.tail ∧ t.lines ≤ t.len - t.head - t.tail ∧ (t.lines = 1 → t.len - t.head - t.tail = 1)
 val0 : 0 ≤ t.val
 val1 : t.val < 2305843009213693951
 empty : t.len = 0 → t.val = 0
 scale : t.scale = 1103515245 ^ t.len.toNat % PP
theorem WOk.scale0 {t : Wt} (h : WOk t) : 0 ≤ t.scale ∧ t.scale < 2305843009213693951 := by
 rw [h.scale]; unfold PP; omega
def Wt.unit : Wt := ⟨0, 0, 0, 0, 0, 1⟩
def Wt.letter (b : Int) : Wt := if b = 10 then ⟨1, 1, 0, 0, b + 1, 1103515245⟩ else ⟨1, 0, 1, 1, b + 1, 1103515245⟩
def Wt.join (a b : Wt) : Wt :=
 ⟨a.len + b.len, a.lines + b.lines, if a.lines = 0 then a.len + b.head else a.head, if b.lines = 0 then b.len + a.tail else b.tail, (a.val * b.scale % PP + b.val) % PP, a.scale * b.scale % PP⟩
theorem WOk.unit : WOk Wt.unit := by
 constructor <;> simp [Wt.unit, PP]
theorem WOk.letter (b : Int) (h0 : 0 ≤ b) (h1 : b < 256) : WOk (Wt.letter b) := by
 unfold Wt.letter
 split <;> constructor <;> simp [PP] <;> omega
theorem pow_add_mod (a b : Int) (ha : 0 ≤ a) (hb : 0 ≤ b) : (1103515245 : Int) ^ a.toNat % PP * (1103515245 ^ b.toNat % PP) % PP = 1103515245 ^ (a + b).toNat % PP := by
 rw [← Int.mul_emod, ← Int.pow_add, Int.toNat_add ha hb]
theorem WOk.join {a b : Wt} (ha : WOk a) (hb : WOk b) (h : a.len + b.len ≤ 1152921504606846976) : WOk (a.join b) := by
 obtain ⟨a1, a2, a3, a4, a5, a6, a7, a8, a9⟩ := ha
 obtain ⟨b1, b2, b3, b4, b5, b6, b7, b8, b9⟩ := hb
 obtain ⟨al, an, ah, at', av, as'⟩ := a
 obtain ⟨bl, bn, bh, bt, bv, bs⟩ := b
 simp only at *
 constructor
 · simp only [Wt.join]; omega
 · simp only [Wt.join]; omega
 · simp only [Wt.join]; omega
 · simp only [Wt.join]; intro h0
   have e1 : an = 0 := by omega
   have e2 : bn = 0 := by omega
   simp only [e1, e2, if_true]; have := a4 e1; have := b4 e2; omega
 · simp only [Wt.join]; intro h0
   by_cases e1 : an = 0 <;> by_cases e2 : bn = 0
   · omega
   · have := a4 e1; have := b5 e2; simp only [e1, e2, if_true, if_false]; omega
   · have := a5 e1; have := b4 e2; simp only [e1, e2, if_true, if_false]; omega
   · have := a5 e1; have := b5 e2; simp only [e1, e2, if_false]; omega
 · simp only [Wt.join]; unfold PP; omega
 · simp only [Wt.join]; unfold PP; omega
 · simp only [Wt.join]; intro h0
   have e1 : al = 0 := by omega
   have e2 : bl = 0 := by omega
   rw [a8 e1, b8 e2]; simp
 · simp only [Wt.join]
   rw [a9, b9, pow_add_mod al bl a1 b1]
def djoin (a b : Int × Int) : Int × Int := ((a.1 * b.2 % PP + b.1) % PP, a.2 * b.2 % PP)
def dpow (d : Int × Int) : Nat → Int × Int
 | 0 => (0, 1)
 | k + 1 => djoin (dpow d k) d
def dred (d : Int × Int) : Prop := (0 ≤ d.1 ∧ d.1 < 2305843009213693951) ∧ (0 ≤ d.2 ∧ d.2 < 2305843009213693951)
theorem dred_join (a b : Int × Int) : dred (djoin a b) := by unfold dred djoin PP; omega
theorem dred_pow (d : Int × Int) (k : Nat) : dred (dpow d k) := by
 cases k with
 | zero => simp [dpow, dred]
 | succ k => exact dred_join _ _
theorem mod_of {x : Int} (h : 0 ≤ x) (h' : x < 2305843009213693951) : x % PP = x := Int.emod_eq_of_lt h h'
theorem djoin_assoc (a b c : Int × Int) : djoin (djoin a b) c = djoin a (djoin b c) := by
 unfold djoin
 refine Prod.ext ?_ ?_
 · show (((a.1 * b.2 % PP + b.1) % PP) * c.2 % PP + c.1) % PP = (a.1 * (b.2 * c.2 % PP) % PP + (b.1 * c.2 % PP + c.1) % PP) % PP
   have e1 : ((a.1 * b.2 % PP + b.1) % PP) * c.2 % PP = (a.1 * b.2 * c.2 + b.1 * c.2) % PP := by
    rw [Int.mul_emod, Int.emod_emod, Int.add_emod, Int.emod_emod, ← Int.add_emod, ← Int.mul_emod, Int.add_mul]
   have e2 : a.1 * (b.2 * c.2 % PP) % PP = a.1 * b.2 * c.2 % PP := by
    rw [Int.mul_emod, Int.emod_emod, ← Int.mul_emod, Int.mul_assoc]
   rw [e1, e2]
   generalize a.1 * b.2 * c.2 = x
   generalize b.1 * c.2 = y
   generalize c.1 = z
   unfold PP
   omega
 · show (a.2 * b.2 % PP) * c.2 % PP = a.2 * (b.2 * c.2 % PP) % PP
   rw [Int.mul_emod, Int.emod_emod, ← Int.mul_emod, Int.mul_emod a.2, Int.emod_emod, ← Int.mul_emod, Int.mul_assoc]
theorem djoin_unit_left {d : Int × Int} (h : dred d) : djoin (0, 1) d = d := by
 unfold djoin
 obtain ⟨⟨h1, h2⟩, h3, h4⟩ := h
 refine Prod.ext ?_ ?_
 · show (0 * d.2 % PP + d.1) % PP = d.1
   rw [Int.zero_mul, Int.zero_emod, Int.zero_add, mod_of h1 h2]
 · show 1 * d.2 % PP = d.2
   rw [Int.one_mul, mod_of h3 h4]
theorem djoin_unit_right {d : Int × Int} (h : dred d) : djoin d (0, 1) = d := by
 unfold djoin
 obtain ⟨⟨h1, h2⟩, h3, h4⟩ := h
 refine Prod.ext ?_ ?_
 · show (d.1 * 1 % PP + 0) % PP = d.1
   rw [Int.mul_one, Int.add_zero, Int.emod_emod, mod_of h1 h2]
 · show d.2 * 1 % PP = d.2
   rw [Int.mul_one, mod_of h3 h4]
theorem dpow_add (d : Int × Int) (hd : dred d) (m n : Nat) : dpow d (m + n) = djoin (dpow d m) (dpow d n) := by
 induction n with
 | zero => exact (djoin_unit_right (dred_pow d m)).symm
 | succ n ih => show djoin (dpow d (m + n)) d = djoin (dpow d m) (djoin (dpow d n) d); rw [ih, djoin_assoc]
theorem dpow_double (d : Int × Int) (hd : dred d) (k : Nat) : dpow (djoin d d) k = dpow d (2 * k) := by
 induction k with
 | zero => rfl
 | succ k ih =>
  show djoin (dpow (djoin d d) k) (djoin d d) = djoin (djoin (dpow d (2 * k)) d) d
  rw [ih, djoin_assoc]
theorem dpow_scale (d : Int × Int) (k : Nat) : (dpow d k).2 = d.2 ^ k % PP := by
 induction k with
 | zero => show (1 : Int) = d.2 ^ 0 % PP; rw [Int.pow_zero]; rfl
 | succ k ih => show (dpow d k).2 * d.2 % PP = _; rw [ih, Int.pow_succ, Int.mul_emod, Int.emod_emod, ← Int.mul_emod]
theorem powm {a : Int} {k : Nat} : (a % PP) ^ k % PP = a ^ k % PP := by
 induction k with
 | zero => rw [Int.pow_zero, Int.pow_zero]
 | succ k ih => rw [Int.pow_succ, Int.pow_succ, Int.mul_emod, ih, Int.emod_emod, ← Int.mul_emod]
def Wt.rep (t : Wt) (k : Int) : Wt :=
 ⟨t.len * k, t.lines * k, if t.lines = 0 then t.len * k else t.head, if t.lines = 0 then t.len * k else t.tail, (dpow (t.val, t.scale) k.toNat).1, (dpow (t.val, t.scale) k.toNat).2⟩
theorem WOk.dred {t : Wt} (h : WOk t) : dred (t.val, t.scale) := ⟨⟨h.val0, h.val1⟩, h.scale0⟩
theorem WOk.rep {t : Wt} (ht : WOk t) (k : Int) (hk : 1 ≤ k) (h : t.len * k ≤ 1152921504606846976) (hl : 1 ≤ t.len) : WOk (t.rep k) := by
 obtain ⟨n, rfl⟩ := Int.eq_ofNat_of_zero_le (a := k) (by omega)
 have hr := dred_pow (t.val, t.scale) n
 have hs := dpow_scale (t.val, t.scale) n
 obtain ⟨a1, a2, a3, a4, a5, a6, a7, a8, a9⟩ := ht
 obtain ⟨al, an, ah, at', av, as'⟩ := t
 simp only at *
 have hp : al * 1 ≤ al * (n : Int) := Int.mul_le_mul_of_nonneg_left hk (by omega)
 have hq : an * 1 ≤ an * (n : Int) := Int.mul_le_mul_of_nonneg_left hk (by omega)
 constructor
 · simp only [Wt.rep]; omega
 · simp only [Wt.rep]; omega
 · simp only [Wt.rep]; omega
 · simp only [Wt.rep]; intro h0
   have e1 : an = 0 := by omega
   simp only [e1, if_true]; exact ⟨trivial, trivial⟩
 · simp only [Wt.rep]; intro h0
   by_cases e1 : an = 0
   · simp [e1] at h0
   · obtain ⟨b1, b2, b3, b4⟩ := a5 e1
     simp only [e1, if_false]
     refine ⟨b1, b2, ?_, ?_⟩
     · have h3 : (an + ah + at') * (n : Int) ≤ al * (n : Int) := Int.mul_le_mul_of_nonneg_right (by omega) (by omega)
       have h4 : ah * 1 ≤ ah * (n : Int) := Int.mul_le_mul_of_nonneg_left hk b1
       have h5 : at' * 1 ≤ at' * (n : Int) := Int.mul_le_mul_of_nonneg_left hk b2
       rw [Int.add_mul, Int.add_mul] at h3
       omega
     · intro h1
       have e2 : an = 1 := by omega
       have e3 : (n : Int) = 1 := by rw [e2] at h1; omega
       rw [e3]; have := b4 e2; omega
 · exact hr.1.1
 · exact hr.1.2
 · simp only [Wt.rep]; intro h0; omega
 · simp only [Wt.rep, Int.toNat_natCast]
   rw [hs]
   show as' ^ n % PP = _
   rw [a9, powm, ← Int.pow_mul]
   congr 2
   have : al * (n : Int) = ((al.toNat * n : Nat) : Int) := by rw [Int.natCast_mul, Int.toNat_of_nonneg a1]
   rw [this, Int.toNat_natCast]
def entCells (L : List Ent) : List Value := L.flatMap Ent.vals
theorem flat_get {α : Type} (f : α → List Value) (m : Nat) : ∀ (L : List α), (∀ x ∈ L, (f x).length = m) → ∀ (i j : Nat) (hj : j < m) (x : α), L[i]? = some x → (L.flatMap f)[i * m + j]? = (f x)[j]? := by
 intro L
 induction L with
 | nil => intro _ i j hj x h; simp at h
 | cons y r ih =>
  intro hm i j hj x h
  have hy : (f y).length = m := hm y (by simp)
  cases i with
  | zero =>
   simp at h
   subst h
   rw [List.flatMap_cons, List.getElem?_append_left (by omega)]
   simp
  | succ i =>
   simp only [List.getElem?_cons_succ] at h
   rw [List.flatMap_cons, List.getElem?_append_right (by rw [hy, Nat.add_mul]; omega)]
   rw [← ih (fun z hz => hm z (by simp [hz])) i j hj x h]
   congr 1
   rw [hy, Nat.add_mul]; omega
theorem flat_len {α : Type} (f : α → List Value) (m : Nat) : ∀ (L : List α), (∀ x ∈ L, (f x).length = m) → (L.flatMap f).length = L.length * m := by
 intro L
 induction L with
 | nil => intro _; simp
 | cons y r ih =>
  intro hm
  rw [List.flatMap_cons, List.length_append, ih (fun z hz => hm z (by simp [hz])), hm y (by simp), List.length_cons, Nat.add_mul]
  omega
theorem owns_cell {w : World} {base : Nat} {e : TypeId} {size : Nat} {n : Nat} {xs : List Value} {g cap : Nat}
    (h : w.ownsRow base e size (.slice (some ⟨g, 0, none⟩) n cap) n xs) (j : Nat) (u : Value) (hu : xs[j]? = some u) : w.cell? ⟨g, j, none⟩ = some u := by
 have := h.cells (g := g) rfl j u hu
 have hadd : (⟨g, 0, none⟩ : Addr).add j = ⟨g, j, none⟩ := by unfold Addr.add; split <;> simp_all
 rwa [hadd] at this
end Go.Proofs.YtgldjpldldknoaaGreatDoor
/- The walks of math/bits.Mul64 (after the library's own worked proof) and of package modular. -/
set_option linter.unusedSimpArgs false
set_option linter.unusedVariables false
namespace Go.Proofs.YtgldjpldldknoaaGreatDoor
open Go.RowKit Go.Lib
namespace M64
theorem maskN (a : Nat) (ha : a < 18446744073709551616) : bits .and .u64 (a : Int) 4294967295 = ((a % 4294967296 : Nat) : Int) := by
 have h := bits_and_u64_nat a 4294967295 ha (by omega)
 have e : a &&& 4294967295 = a % 4294967296 := Nat.and_two_pow_sub_one_eq_mod a 32
 rw [e] at h
 exact h
theorem maskP (a : Nat) (ha : a < 18446744073709551616) : bits .and .u64 (a : Int) 2305843009213693951 = ((a % 2305843009213693952 : Nat) : Int) := by
 have h := bits_and_u64_nat a 2305843009213693951 ha (by omega)
 have e : a &&& 2305843009213693951 = a % 2305843009213693952 := Nat.and_two_pow_sub_one_eq_mod a 61
 rw [e] at h
 exact h
theorem divN (a : Nat) : (a : Int) / 4294967296 = ((a / 4294967296 : Nat) : Int) := by omega
theorem mulN (a b : Nat) : (a : Int) * (b : Int) = ((a * b : Nat) : Int) := (Int.natCast_mul a b).symm
theorem addN (a b : Nat) : (a : Int) + (b : Int) = ((a + b : Nat) : Int) := (Int.natCast_add a b).symm
theorem wrapN (a : Nat) (ha : a < 18446744073709551616) : IntKind.u64.wrap (a : Int) = (a : Int) := by rw [IntKind.wrap_u64]; omega
theorem wrapM (a : Nat) : IntKind.u64.wrap (a : Int) = ((a % 18446744073709551616 : Nat) : Int) := by rw [IntKind.wrap_u64]; omega
end M64
set_option maxHeartbeats 1000000 in
theorem bits_Mul64 (x y : Nat) (hx : x < 18446744073709551616) (hy : y < 18446744073709551616) (w : World) :
    Calls Tryz.prog 113 #[.int .u64 x, .int .u64 y] w fun e w' => e = .returned (.tuple #[.int .u64 ((x * y / 18446744073709551616 : Nat) : Int), .int .u64 ((x * y % 18446744073709551616 : Nat) : Int)]) ∧ w = w' := by
 obtain ⟨bd, bt, bw, hhi⟩ := Lib.mul64_hi x y hx hy
 have ba := Lib.half_mul_le (a := x / 4294967296) (b := y / 4294967296) (by omega) (by omega)
 have bb := Lib.half_mul_le (a := x / 4294967296) (b := y % 4294967296) (by omega) (by omega)
 have bc := Lib.half_mul_le (a := x % 4294967296) (b := y / 4294967296) (by omega) (by omega)
 have ba' : x / 4294967296 * (y / 4294967296) < 18446744073709551616 := by omega
 have bb' : x / 4294967296 * (y % 4294967296) < 18446744073709551616 := by omega
 have bc' : x % 4294967296 * (y / 4294967296) < 18446744073709551616 := by omega
 have bh1 : x / 4294967296 * (y / 4294967296) + (x / 4294967296 * (y % 4294967296) + x % 4294967296 * (y % 4294967296) / 4294967296) / 4294967296 < 18446744073709551616 := by omega
 have bh : x / 4294967296 * (y / 4294967296) + (x / 4294967296 * (y % 4294967296) + x % 4294967296 * (y % 4294967296) / 4294967296) / 4294967296 + ((x / 4294967296 * (y % 4294967296) + x % 4294967296 * (y % 4294967296) / 4294967296) % 4294967296 + x % 4294967296 * (y / 4294967296)) / 4294967296 < 18446744073709551616 := by omega
 go_enter Tryz.func113, Tryz.ntmps113
 go_wp2
 simp only [M64.maskN x hx, M64.maskN y hy, M64.divN, M64.mulN, M64.addN, M64.wrapN _ bd, M64.wrapN _ bb', M64.wrapN _ bt, M64.maskN _ bt, M64.wrapN _ bc', M64.wrapN _ bw, M64.wrapN _ ba', M64.wrapN _ bh1, M64.wrapN _ bh, M64.wrapM (x * y)]
 rw [hhi]
 go_ret2
 exact ⟨rfl, rfl⟩
theorem ret_int {k : IntKind} {a b : Int} (h : a = b) : Ending.returned (.int k a) = .returned (.int k b) := by rw [h]
theorem maskI (x : Int) (h0 : 0 ≤ x) (hx : x < 18446744073709551616) : bits .and .u64 x 2305843009213693951 = x % 2305843009213693952 := by
 obtain ⟨n, rfl⟩ := Int.eq_ofNat_of_zero_le h0
 rw [M64.maskP n (by omega)]; omega
theorem red_lt {x s : Int} (h0 : 0 ≤ x) (hx : x < 18446744073709551616) (hs : x % 2305843009213693952 + x / 2305843009213693952 = s) (h : s < 2305843009213693951) : s = x % PP := by
 unfold PP; omega
theorem red_ge {x s : Int} (h0 : 0 ≤ x) (hx : x < 18446744073709551616) (hs : x % 2305843009213693952 + x / 2305843009213693952 = s) (h : 2305843009213693951 ≤ s) : s - 2305843009213693951 = x % PP := by
 unfold PP; omega
set_option maxRecDepth 100000 in
set_option maxHeartbeats 400000 in
theorem mod_Reduce (x : Int) (h0 : 0 ≤ x) (hx : x < 18446744073709551616) (w : World) :
    Calls Tryz.prog 112 #[.int .u64 x] w fun e w' => e = .returned (.int .u64 (x % PP)) ∧ w = w' := by
 obtain ⟨R, hR⟩ : ∃ R, x % PP = R := ⟨_, rfl⟩
 rw [hR]
 have HR := Lib.hid hR
 clear hR
 have hm := maskI x h0 hx
 go_enter Tryz.func112, Tryz.ntmps112
 iterate 30 go_step
 generalize hs : x % 2305843009213693952 + x / 2305843009213693952 = s
 have hb : s < 4611686018427387904 := by omega
 have hb0 : 0 ≤ s := by omega
 have HS := Lib.hid hs
 clear hs hm
 by_cases h : s < 2305843009213693951
 · have HE := Lib.hid (red_lt h0 hx HS.out h)
   go_wp2
   go_ret
   exact ⟨ret_int (HE.out.trans HR.out), rfl⟩
 · have HE := Lib.hid (red_ge h0 hx HS.out (by omega))
   go_wp2
   go_ret
   exact ⟨ret_int (HE.out.trans HR.out), rfl⟩
theorem pp_lt (x : Int) : 0 ≤ x % PP ∧ x % PP < 2305843009213693951 := by unfold PP; omega
theorem add_mod (a b : Int) : (a % PP + b % PP) % PP = (a + b) % PP := by rw [← Int.add_emod]
set_option maxHeartbeats 400000 in
theorem mod_Add (a b : Int) (ha : 0 ≤ a) (ha' : a < 18446744073709551616) (hb : 0 ≤ b) (hb' : b < 18446744073709551616) (w : World) :
    Calls Tryz.prog 92 #[.int .u64 a, .int .u64 b] w fun e w' => e = .returned (.int .u64 ((a + b) % PP)) ∧ w = w' := by
 obtain ⟨R, hR⟩ : ∃ R, (a + b) % PP = R := ⟨_, rfl⟩
 rw [hR]
 have h3 := add_mod a b
 have h4 := pp_lt a
 have h5 := pp_lt b
 rw [hR] at h3
 have H3 := Lib.hid h3
 clear h3 hR
 have c1 := mod_Reduce a ha ha'
 have c2 := mod_Reduce b hb hb'
 generalize a % PP = x at *
 generalize b % PP = y at *
 have C1 := Lib.hid c1
 have C2 := Lib.hid c2
 clear c1 c2
 go_enter Tryz.func92, Tryz.ntmps92
 go_wp2_with fail
 refine (C1.out _).mono ?_
 rintro e w' ⟨rfl, rfl⟩
 go_wp2_with fail
 refine (C2.out _).mono ?_
 rintro e w' ⟨rfl, rfl⟩
 go_wp2_with fail
 refine (mod_Reduce _ (by omega) (by omega) _).mono ?_
 rintro e w' ⟨rfl, rfl⟩
 go_wp2_with fail
 go_ret
 exact ⟨ret_int H3.out, rfl⟩
theorem mul_bound {a b : Int} (h1 : 0 ≤ a) (h2 : a < 2305843009213693951) (h3 : 0 ≤ b) (h4 : b < 2305843009213693951) : 0 ≤ a * b ∧ a * b < 5316911983139663487003542222693990400 := by
 refine ⟨Int.mul_nonneg h1 h3, ?_⟩
 have : a * b ≤ 2305843009213693950 * 2305843009213693950 := Int.mul_le_mul (by omega) (by omega) h3 (by omega)
 omega
theorem mul_fold {a b : Int} (h1 : 0 ≤ a) (h2 : a < 2305843009213693951) (h3 : 0 ≤ b) (h4 : b < 2305843009213693951) :
    (a * b / 18446744073709551616 * 8 + a * b % 18446744073709551616 / 2305843009213693952 + a * b % 18446744073709551616 % 2305843009213693952) % PP = a * b % PP := by
 obtain ⟨h5, h6⟩ := mul_bound h1 h2 h3 h4
 generalize a * b = x at *
 unfold PP
 omega
theorem bits_Mul64I (x y : Int) (hx0 : 0 ≤ x) (hx : x < 18446744073709551616) (hy0 : 0 ≤ y) (hy : y < 18446744073709551616) (w : World) :
    Calls Tryz.prog 113 #[.int .u64 x, .int .u64 y] w fun e w' => e = .returned (.tuple #[.int .u64 (x * y / 18446744073709551616), .int .u64 (x * y % 18446744073709551616)]) ∧ w = w' := by
 obtain ⟨n, rfl⟩ := Int.eq_ofNat_of_zero_le hx0
 obtain ⟨m, rfl⟩ := Int.eq_ofNat_of_zero_le hy0
 refine (bits_Mul64 n m (by omega) (by omega) w).mono ?_
 rintro e w' ⟨rfl, rfl⟩
 refine ⟨?_, rfl⟩
 simp only [Int.natCast_mul, Int.natCast_ediv, Int.natCast_emod]
 rfl
set_option maxRecDepth 100000 in
set_option maxHeartbeats 400000 in
theorem mod_Mul (a b : Int) (ha : 0 ≤ a) (ha' : a < 18446744073709551616) (hb : 0 ≤ b) (hb' : b < 18446744073709551616) (w : World) :
    Calls Tryz.prog 93 #[.int .u64 a, .int .u64 b] w fun e w' => e = .returned (.int .u64 (a * b % PP)) ∧ w = w' := by
 obtain ⟨R, hR⟩ : ∃ R, a * b % PP = R := ⟨_, rfl⟩
 rw [hR]
 have h4 := pp_lt a
 have h5 := pp_lt b
 have h3 := mul_fold h4.1 h4.2 h5.1 h5.2
 have h6 := mul_bound h4.1 h4.2 h5.1 h5.2
 rw [← Int.mul_emod, hR] at h3
 clear hR
 have c1 := mod_Reduce a ha ha'
 have c2 := mod_Reduce b hb hb'
 generalize a % PP = x at *
 generalize b % PP = y at *
 have c3 := bits_Mul64I x y h4.1 (by omega) h5.1 (by omega)
 generalize x * y = z at *
 have hi0 : 0 ≤ z / 18446744073709551616 := by omega
 have hi1 : z / 18446744073709551616 < 288230376151711744 := by omega
 have lo0 : 0 ≤ z % 18446744073709551616 := by omega
 have lo1 : z % 18446744073709551616 < 18446744073709551616 := by omega
 have hm := maskI (z % 18446744073709551616) lo0 lo1
 generalize z / 18446744073709551616 = hi at *
 generalize z % 18446744073709551616 = lo at *
 have H3 := Lib.hid h3
 clear h3
 have C1 := Lib.hid c1
 have C2 := Lib.hid c2
 have C3 := Lib.hid c3
 clear c1 c2 c3
 clear z h6
 go_enter Tryz.func93, Tryz.ntmps93
 go_wp2_with fail
 refine (C1.out _).mono ?_
 rintro e w' ⟨rfl, rfl⟩
 go_wp2_with fail
 refine (C2.out _).mono ?_
 rintro e w' ⟨rfl, rfl⟩
 go_wp2_with fail
 refine (C3.out _).mono ?_
 rintro e w' ⟨rfl, rfl⟩
 go_wp2_with fail
 refine (mod_Reduce _ (by omega) (by omega) _).mono ?_
 rintro e w' ⟨rfl, rfl⟩
 go_wp2_with fail
 go_ret
 exact ⟨ret_int H3.out, rfl⟩
theorem pow_odd (x y : Int) (k : Nat) (h : k % 2 = 1) : ((y * x % PP) * (x * x % PP) ^ (k / 2)) % PP = (y * x ^ k) % PP := by
 have e : x ^ k = x * (x * x) ^ (k / 2) := by
  have : k = 2 * (k / 2) + 1 := by omega
  conv => lhs; rw [this, Int.pow_succ, Int.pow_mul]
  rw [show x ^ 2 = x * x by rw [Int.pow_succ, Int.pow_succ, Int.pow_zero, Int.one_mul], Int.mul_comm]
 rw [e, Int.mul_emod, Int.emod_emod, powm, ← Int.mul_emod, Int.mul_assoc]
theorem pow_even (x y : Int) (k : Nat) (h : k % 2 = 0) : (y * (x * x % PP) ^ (k / 2)) % PP = (y * x ^ k) % PP := by
 have e : x ^ k = (x * x) ^ (k / 2) := by
  have : k = 2 * (k / 2) := by omega
  conv => lhs; rw [this, Int.pow_mul]
  rw [show x ^ 2 = x * x by rw [Int.pow_succ, Int.pow_succ, Int.pow_zero, Int.one_mul]]
 rw [e, Int.mul_emod, powm, ← Int.mul_emod]
set_option maxHeartbeats 800000 in
theorem mod_Pow (a : Int) (n : Nat) (ha : 0 ≤ a) (ha' : a < 18446744073709551616) (hn : n < 18446744073709551616) (w : World) :
    Calls Tryz.prog 91 #[.int .u64 a, .int .u64 n] w fun e w' => e = .returned (.int .u64 (a ^ n % PP)) ∧ w = w' := by
 obtain ⟨R, hR⟩ : ∃ R, a ^ n % PP = R := ⟨_, rfl⟩
 rw [hR]
 have h4 := pp_lt a
 have c1 := mod_Reduce a ha ha' w
 have hR2 : (1 * (a % PP) ^ n) % PP = R := by rw [Int.one_mul, powm, hR]
 clear hR
 generalize a % PP = x at *
 have HR := Lib.hid hR2
 have C1 := Lib.hid c1
 clear hR2 c1
 go_enter Tryz.func91, Tryz.ntmps91
 go_wp2_with fail
 refine C1.out.mono ?_
 rintro e w' ⟨rfl, rfl⟩
 clear C1
 go_wp2_with fail
 go_loop [0, 1, 5] (fun u v z => ∃ (p y : Int) (k : Nat), 0 ≤ p ∧ p < 2305843009213693951 ∧ 0 ≤ y ∧ y < 2305843009213693951 ∧ k ≤ n ∧ u = .int .u64 p ∧ v = .int .u64 k ∧ z = .int .u64 y ∧ Hid ((y * p ^ k) % PP = R)) (fun _ v _ => (intOf v).toNat)
 case atStart => exact ⟨x, 1, n, h4.1, h4.2, by omega, by omega, Nat.le_refl _, rfl, rfl, rfl, HR⟩
 case round =>
  obtain ⟨p, y, k, hp0, hp1, hy0, hy1, hk, rfl, rfl, rfl, HK⟩ := hrel
  by_cases hk0 : 0 < k
  · by_cases ho : k % 2 = 1
    · have e1 := pow_odd p y k ho
      have b1 := pp_lt (y * p)
      have b2 := pp_lt (p * p)
      have c2 := mod_Mul y p hy0 (by omega) hp0 (by omega) w
      have c3 := mod_Mul p p hp0 (by omega) hp0 (by omega) w
      generalize y * p % PP = y' at *
      generalize p * p % PP = p' at *
      rw [HK.out] at e1
      have E1 := Lib.hid e1
      have C2 := Lib.hid c2
      have C3 := Lib.hid c3
      clear e1 c2 c3 HK HR
      have ht : (((k : Int) % 2) == 1) = true := by simp; omega
      go_wp2_with fail
      refine C2.out.mono ?_
      rintro e w' ⟨rfl, rfl⟩
      go_wp2_with fail
      refine C3.out.mono ?_
      rintro e w' ⟨rfl, rfl⟩
      go_wp2_with fail
      go_round
      case rel => exact ⟨p', y', k / 2, b2.1, b2.2, b1.1, b1.2, by omega, rfl, by go_num, rfl, E1⟩
      case measure => simp [intOf]; omega
    · have e1 := pow_even p y k (by omega)
      have b2 := pp_lt (p * p)
      have c3 := mod_Mul p p hp0 (by omega) hp0 (by omega) w
      generalize p * p % PP = p' at *
      rw [HK.out] at e1
      have E1 := Lib.hid e1
      have C3 := Lib.hid c3
      clear e1 c3 HK HR
      have ht : (((k : Int) % 2) == 1) = false := by simp; omega
      go_wp2_with fail
      refine C3.out.mono ?_
      rintro e w' ⟨rfl, rfl⟩
      go_wp2_with fail
      go_round
      case rel => exact ⟨p', y, k / 2, b2.1, b2.2, hy0, hy1, by omega, rfl, by go_num, rfl, E1⟩
      case measure => simp [intOf]; omega
  · obtain rfl : k = 0 := by omega
    have e1 := HK.out
    rw [Int.pow_zero, Int.mul_one, Int.emod_eq_of_lt hy0 (by unfold PP; omega)] at e1
    have E1 := Lib.hid e1
    clear e1 HK HR
    go_wp2_with fail
    go_ret
    exact ⟨ret_int E1.out, rfl⟩
theorem mod_PowI (a n : Int) (ha : 0 ≤ a) (ha' : a < 18446744073709551616) (h0 : 0 ≤ n) (hn : n < 18446744073709551616) (w : World) :
    Calls Tryz.prog 91 #[.int .u64 a, .int .u64 n] w fun e w' => e = .returned (.int .u64 (a ^ n.toNat % PP)) ∧ w = w' := by
 obtain ⟨k, rfl⟩ := Int.eq_ofNat_of_zero_le h0
 exact mod_Pow a k ha ha' (by omega) w
end Go.Proofs.YtgldjpldldknoaaGreatDoor
/- The walks of package length: each function returns what its plain function gives, the world unchanged. -/
set_option linter.unusedSimpArgs false
set_option linter.unusedVariables false
namespace Go.Proofs.YtgldjpldldknoaaGreatDoor
open Go.RowKit
def validB (n : Int) : Bool := decide (0 ≤ n) && decide (n ≤ 1152921504606846976)
def errV (n : Int) : Value := if n = 0 then .nilIface else .iface 77 (.int .i64 n)
set_option maxHeartbeats 400000 in
theorem len_Valid (n : Int) (w : World) :
    Calls Tryz.prog 44 #[.int .i64 n] w fun e w' => e = .returned (.bool (validB n)) ∧ w = w' := by
 by_cases h0 : 0 ≤ n
 all_goals
  go_enter Tryz.func44, Tryz.ntmps44
  go_wp2
  go_ret
  exact ⟨by simp [validB]; try omega, rfl⟩
theorem len_Valid_yes (n : Int) (w : World) (h : 0 ≤ n) (h2 : n ≤ 1152921504606846976) :
    Calls Tryz.prog 44 #[.int .i64 n] w fun e w' => e = .returned (.bool true) ∧ w = w' := by
 refine (len_Valid n w).mono ?_
 rintro e w' ⟨rfl, rfl⟩
 exact ⟨by simp [validB, h, h2], rfl⟩
set_option maxHeartbeats 400000 in
theorem len_Clip (n lo hi : Int) (w : World) :
    Calls Tryz.prog 33 #[.int .i64 n, .int .i64 lo, .int .i64 hi] w fun e w' => e = .returned (.int .i64 (if n < lo then lo else if hi < n then hi else n)) ∧ w = w' := by
 go_enter Tryz.func33, Tryz.ntmps33
 go_wp2
 all_goals (go_ret; exact ⟨by simp [*], rfl⟩)
set_option maxHeartbeats 400000 in
theorem len_Add_ok (a b : Int) (w : World) (ha : 0 ≤ a) (hb : 0 ≤ b) (h : a + b ≤ 1152921504606846976) :
    Calls Tryz.prog 30 #[.int .i64 a, .int .i64 b] w fun e w' => e = .returned (.tuple #[.int .i64 (a + b), .nilIface]) ∧ w = w' := by
 go_enter Tryz.func30, Tryz.ntmps30
 go_wp2_with (go_at_call 44; refine (len_Valid_yes _ _ (by omega) (by omega)).mono ?_; rintro e w' ⟨rfl, rfl⟩)
 go_ret2
 exact ⟨rfl, rfl⟩
set_option maxHeartbeats 400000 in
theorem len_Range_ok (f n l : Int) (w : World) (h0 : 0 ≤ f) (h1 : 0 ≤ n) (h2 : f + n ≤ l) (h3 : l ≤ 1152921504606846976) :
    Calls Tryz.prog 48 #[.int .i64 f, .int .i64 n, .int .i64 l] w fun e w' => e = .returned .nilIface ∧ w = w' := by
 go_enter Tryz.func48, Tryz.ntmps48
 go_wp2_with (go_at_call 44; refine (len_Valid_yes _ _ (by omega) (by omega)).mono ?_; rintro e w' ⟨rfl, rfl⟩)
 go_ret
 exact ⟨rfl, rfl⟩
end Go.Proofs.YtgldjpldldknoaaGreatDoor
/- The walks of length.Mul. -/
set_option linter.unusedSimpArgs false
set_option linter.unusedVariables false
namespace Go.Proofs.YtgldjpldldknoaaGreatDoor
open Go.RowKit
set_option maxHeartbeats 400000 in
theorem len_Mul_zero (k : Int) (w : World) (hk : 0 ≤ k) :
    Calls Tryz.prog 24 #[.int .i64 0, .int .i64 k] w fun e w' => e = .returned (.tuple #[.int .i64 0, .nilIface]) ∧ w = w' := by
 go_enter Tryz.func24, Tryz.ntmps24
 go_wp2_with (go_at_call 44; refine (len_Valid_yes _ _ (by omega) (by omega)).mono ?_; rintro e w' ⟨rfl, rfl⟩)
 go_ret2
 exact ⟨rfl, rfl⟩
theorem div_bound {a k : Int} (ha : 1 ≤ a) (hk : 0 ≤ k) (h : a * k ≤ 1152921504606846976) : k ≤ 1152921504606846976 / a := (Int.le_ediv_iff_mul_le (by omega)).2 (by rw [Int.mul_comm]; exact h)
set_option maxHeartbeats 400000 in
theorem len_Mul_ok (a k : Int) (w : World) (ha : 1 ≤ a) (hk : 0 ≤ k) (h : a * k ≤ 1152921504606846976) (ha2 : a ≤ 1152921504606846976) :
    Calls Tryz.prog 24 #[.int .i64 a, .int .i64 k] w fun e w' => e = .returned (.tuple #[.int .i64 (a * k), .nilIface]) ∧ w = w' := by
 have h1 := div_bound ha hk h
 have h2 : 0 ≤ a * k := Int.mul_nonneg (by omega) hk
 have h3 : decide (1152921504606846976 / a < k) = false := by simpa using h1
 have h4 : (a == 0) = false := by simp; omega
 go_enter Tryz.func24, Tryz.ntmps24
 go_wp2_with (go_at_call 44; refine (len_Valid_yes _ _ (by omega) (by omega)).mono ?_; rintro e w' ⟨rfl, rfl⟩)
 go_ret2
 exact ⟨rfl, rfl⟩
end Go.Proofs.YtgldjpldldknoaaGreatDoor
/- The distance of two texts (plain): deleted and inserted letters; neighbours differ by one, parity, symmetry, no detour is shorter. -/
namespace Go.Proofs.YtgldjpldldknoaaGreatDoor
def ed : List Int → List Int → Nat
 | [], b => b.length
 | x :: a, [] => (x :: a).length
 | x :: a, y :: b => if x = y then ed a b else 1 + min (ed a (y :: b)) (ed (x :: a) b)
termination_by a b => a.length + b.length
theorem ed_nl (b : List Int) : ed [] b = b.length := by unfold ed; rfl
theorem ed_nr (a : List Int) : ed a [] = a.length := by cases a <;> (unfold ed; rfl)
theorem ed_eq {x y : Int} (a b : List Int) (h : x = y) : ed (x :: a) (y :: b) = ed a b := by
 rw [ed, if_pos h]
theorem ed_ne {x y : Int} (a b : List Int) (h : x ≠ y) : ed (x :: a) (y :: b) = 1 + min (ed a (y :: b)) (ed (x :: a) b) := by
 rw [ed, if_neg h]
theorem two_ind {P : List Int → List Int → Prop} (h1 : ∀ b, P [] b) (h2 : ∀ x a, P (x :: a) [])
    (h3 : ∀ x a y b, P a b → P a (y :: b) → P (x :: a) b → P (x :: a) (y :: b)) : ∀ a b, P a b := by
 have key : ∀ (N : Nat) (a b : List Int), a.length + b.length ≤ N → P a b := by
  intro N
  induction N with
  | zero =>
   intro a b h
   have ha : a = [] := List.eq_nil_of_length_eq_zero (by omega)
   subst ha
   exact h1 b
  | succ N ih =>
   intro a b h
   cases a with
   | nil => exact h1 b
   | cons x a =>
    cases b with
    | nil => exact h2 x a
    | cons y b =>
     simp only [List.length_cons] at h
     exact h3 x a y b (ih _ _ (by omega)) (ih _ _ (by simp only [List.length_cons]; omega)) (ih _ _ (by simp only [List.length_cons]; omega))
 exact fun a b => key _ a b (Nat.le_refl _)
theorem ed_gap : ∀ a b, a.length ≤ b.length + ed a b ∧ b.length ≤ a.length + ed a b ∧ ed a b ≤ a.length + b.length := by
 refine two_ind ?_ ?_ ?_
 · intro b; rw [ed_nl]; simp
 · intro x a; rw [ed_nr]; simp
 · intro x a y b p q r
   simp only [List.length_cons] at *
   by_cases c : x = y
   · rw [ed_eq _ _ c]; omega
   · rw [ed_ne _ _ c]; omega
end Go.Proofs.YtgldjpldldknoaaGreatDoor
/- The rows of the distance (plain): what the program's rows hold, and that they find the distance, also along every shortest way. -/
namespace Go.Proofs.YtgldjpldldknoaaGreatDoor
def cpl : List Int → List Int → Nat
 | x :: a, y :: b => if x = y then cpl a b + 1 else 0
 | [], _ => 0
 | _ :: _, [] => 0
theorem cpl_le : ∀ a b, cpl a b ≤ a.length ∧ cpl a b ≤ b.length
 | [], b => by simp [cpl]
 | _ :: _, [] => by simp [cpl]
 | x :: a, y :: b => by
  have h := cpl_le a b
  unfold cpl
  simp only [List.length_cons]
  split <;> omega
def edp (A B : List Int) (x y : Nat) : Nat := ed (A.drop x) (B.drop y)
theorem drop_cons (A : List Int) {x : Nat} (h : x < A.length) : A.drop x = A.getD x 0 :: A.drop (x + 1) := by
 rw [List.drop_eq_getElem_cons h, List.getD_eq_getElem?_getD, List.getElem?_eq_getElem h]; rfl
theorem edp_match (A B : List Int) {x y : Nat} (hx : x < A.length) (hy : y < B.length) (h : A.getD x 0 = B.getD y 0) : edp A B x y = edp A B (x + 1) (y + 1) := by
 unfold edp; rw [drop_cons A hx, drop_cons B hy, ed_eq _ _ h]
theorem edp_gap (A B : List Int) {x y : Nat} (hx : x ≤ A.length) (hy : y ≤ B.length) : (A.length : Int) - x ≤ B.length - y + edp A B x y ∧ (B.length : Int) - y ≤ A.length - x + edp A B x y := by
 have h := ed_gap (A.drop x) (B.drop y)
 rw [List.length_drop, List.length_drop] at h
 unfold edp
 omega
inductive OP (A B : List Int) : Nat → Nat → Prop
 | zero : OP A B 0 0
 | keep {x y : Nat} : OP A B x y → x < A.length → y < B.length → A.getD x 0 = B.getD y 0 → OP A B (x + 1) (y + 1)
 | del {x y : Nat} : OP A B x y → x < A.length → edp A B x y = 1 + edp A B (x + 1) y → OP A B (x + 1) y
 | ins {x y : Nat} : OP A B x y → y < B.length → edp A B x y = 1 + edp A B x (y + 1) → OP A B x (y + 1)
theorem OP.le {A B : List Int} {x y : Nat} (h : OP A B x y) : x ≤ A.length ∧ y ≤ B.length := by
 induction h with
 | zero => exact ⟨Nat.zero_le _, Nat.zero_le _⟩
 | keep _ _ _ _ _ => omega
 | del _ _ _ _ => omega
 | ins _ _ _ _ => omega
theorem OP.gap {A B : List Int} {x y : Nat} (h : OP A B x y) : (x : Int) - y + edp A B x y ≤ edp A B 0 0 ∧ (y : Int) - x + edp A B x y ≤ edp A B 0 0 := by
 induction h with
 | zero => omega
 | keep _ h1 h2 h3 ih => have := edp_match A B h1 h2 h3; omega
 | del _ _ _ ih => omega
 | ins _ _ _ ih => omega
def NONE : Int := 1152921504606846977
def dlow (A B : List Int) (e : Nat) : Int := max ((A.length : Int) - B.length - e) (-(256 - (e : Int)))
def dhigh (A B : List Int) (e : Nat) : Int := min ((A.length : Int) - B.length + e) (256 - (e : Int))
def Cell (A B : List Int) (e : Nat) (d v : Int) : Prop :=
 v = NONE ∨ ∃ x y : Nat, v = x ∧ (x : Int) - y = d ∧ x ≤ A.length ∧ y ≤ B.length ∧ edp A B x y ≤ e
theorem Cell.up {A B : List Int} {e e' : Nat} {d v : Int} (h : Cell A B e d v) (he : e ≤ e') : Cell A B e' d v := by
 rcases h with h | ⟨x, y, h1, h2, h3, h4, h5⟩
 · exact .inl h
 · exact .inr ⟨x, y, h1, h2, h3, h4, by omega⟩
theorem Cell.min {A B : List Int} {e : Nat} {d u v : Int} (hu : Cell A B e d u) (hv : Cell A B e d v) : Cell A B e d (min u v) := by
 rcases Int.le_total u v with g | g
 · rw [Int.min_eq_left g]; exact hu
 · rw [Int.min_eq_right g]; exact hv
theorem OP.range {A B : List Int} {x y e : Nat} (h : OP A B x y) (he : edp A B x y = e) (hG : edp A B 0 0 ≤ 256) : dlow A B e ≤ (x : Int) - y ∧ (x : Int) - y ≤ dhigh A B e := by
 have h1 := h.gap
 have h2 := edp_gap A B h.le.1 h.le.2
 have h3 := h.le
 unfold dlow dhigh
 omega
end Go.Proofs.YtgldjpldldknoaaGreatDoor
/- The rows as lists, and the table of all distances (plain). -/
set_option linter.unusedSimpArgs false
set_option linter.unusedVariables false
namespace Go.Proofs.YtgldjpldldknoaaGreatDoor
structure RowD where
 low : Int
 frm : List Int
def RowD.at (r : RowD) (d : Int) : Int := if 0 ≤ d - r.low ∧ d - r.low < r.frm.length then r.frm.getD (d - r.low).toNat 0 else NONE
end Go.Proofs.YtgldjpldldknoaaGreatDoor

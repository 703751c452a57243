/- Plain words for the rules of a store and how they lie in cells. No program. -/
import Derived.Test.YtclpndigmidjkaaGreatBase
set_option linter.unusedSimpArgs false
set_option linter.unusedVariables false
namespace Go.Proofs.YtclpndigmidjkaaGreat
open Go.RowKit

/-- 2^61 - 1 -/
def PP : Int := 2305843009213693951

structure Rl where
  kind : Int
  letter : Int
  left : Int
  right : Int
  times : Int
deriving DecidableEq, Inhabited

structure Wt where
  len : Int
  lines : Int
  head : Int
  tail : Int
  val : Int
  scale : Int
deriving DecidableEq, Inhabited

structure Ent where
  rule : Rl
  wt : Wt
  depth : Int
  even : Bool
deriving DecidableEq, Inhabited

def Rl.vals (r : Rl) : List Value := [.int .i64 r.kind, .int .u8 r.letter, .int .i64 r.left, .int .i64 r.right, .int .i64 r.times]
def Wt.vals (t : Wt) : List Value := [.int .i64 t.len, .int .i64 t.lines, .int .i64 t.head, .int .i64 t.tail, .int .u64 t.val, .int .u64 t.scale]
def Ent.vals (e : Ent) : List Value := [.int .i64 e.rule.kind, .int .u8 e.rule.letter, .int .i64 e.rule.left, .int .i64 e.rule.right, .int .i64 e.rule.times,
  .int .i64 e.wt.len, .int .i64 e.wt.lines, .int .i64 e.wt.head, .int .i64 e.wt.tail, .int .u64 e.wt.val, .int .u64 e.wt.scale, .int .i64 e.depth, .bool e.even]

/-- The fields of a weight fit each other. -/
structure WOk (t : Wt) : Prop where
  len0 : 0 ≤ t.len
  len1 : t.len ≤ 1152921504606846976
  lines0 : 0 ≤ t.lines
  one : t.lines = 0 → t.head = t.len ∧ t.tail = t.len
  more : t.lines ≠ 0 → 0 ≤ t.head ∧ 0 ≤ t.tail ∧ t.lines ≤ t.len - t.head - t.tail ∧ (t.lines = 1 → t.len - t.head - t.tail = 1)
  val0 : 0 ≤ t.val
  val1 : t.val < 2305843009213693951
  empty : t.len = 0 → t.val = 0
  scale : t.scale = 1103515245 ^ t.len.toNat % PP

theorem WOk.scale0 {t : Wt} (h : WOk t) : 0 ≤ t.scale ∧ t.scale < 2305843009213693951 := by
  rw [h.scale]; unfold PP; omega

def Wt.unit : Wt := ⟨0, 0, 0, 0, 0, 1⟩
def Wt.letter (b : Int) : Wt := if b = 10 then ⟨1, 1, 0, 0, b + 1, 1103515245⟩ else ⟨1, 0, 1, 1, b + 1, 1103515245⟩
def Wt.join (a b : Wt) : Wt :=
  ⟨a.len + b.len, a.lines + b.lines, if a.lines = 0 then a.len + b.head else a.head, if b.lines = 0 then b.len + a.tail else b.tail, (a.val * b.scale % PP + b.val) % PP, a.scale * b.scale % PP⟩

theorem WOk.unit : WOk Wt.unit := by
  constructor <;> simp [Wt.unit, PP]

theorem WOk.letter (b : Int) (h0 : 0 ≤ b) (h1 : b < 256) : WOk (Wt.letter b) := by
  unfold Wt.letter
  split <;> constructor <;> simp [PP] <;> omega

theorem pow_add_mod (a b : Int) (ha : 0 ≤ a) (hb : 0 ≤ b) : (1103515245 : Int) ^ a.toNat % PP * (1103515245 ^ b.toNat % PP) % PP = 1103515245 ^ (a + b).toNat % PP := by
  rw [← Int.mul_emod, ← Int.pow_add, Int.toNat_add ha hb]

theorem WOk.join {a b : Wt} (ha : WOk a) (hb : WOk b) (h : a.len + b.len ≤ 1152921504606846976) : WOk (a.join b) := by
  obtain ⟨a1, a2, a3, a4, a5, a6, a7, a8, a9⟩ := ha
  obtain ⟨b1, b2, b3, b4, b5, b6, b7, b8, b9⟩ := hb
  obtain ⟨al, an, ah, at', av, as'⟩ := a
  obtain ⟨bl, bn, bh, bt, bv, bs⟩ := b
  simp only at *
  constructor
  · simp only [Wt.join]; omega
  · simp only [Wt.join]; omega
  · simp only [Wt.join]; omega
  · simp only [Wt.join]; intro h0
    have e1 : an = 0 := by omega
    have e2 : bn = 0 := by omega
    simp only [e1, e2, if_true]; have := a4 e1; have := b4 e2; omega
  · simp only [Wt.join]; intro h0
    by_cases e1 : an = 0 <;> by_cases e2 : bn = 0
    · omega
    · have := a4 e1; have := b5 e2; simp only [e1, e2, if_true, if_false]; omega
    · have := a5 e1; have := b4 e2; simp only [e1, e2, if_true, if_false]; omega
    · have := a5 e1; have := b5 e2; simp only [e1, e2, if_false]; omega
  · simp only [Wt.join]; unfold PP; omega
  · simp only [Wt.join]; unfold PP; omega
  · simp only [Wt.join]; intro h0
    have e1 : al = 0 := by omega
    have e2 : bl = 0 := by omega
    rw [a8 e1, b8 e2]; simp
  · simp only [Wt.join]
    rw [a9, b9, pow_add_mod al bl a1 b1]

/-- Digests as pairs. -/
def djoin (a b : Int × Int) : Int × Int := ((a.1 * b.2 % PP + b.1) % PP, a.2 * b.2 % PP)
def dpow (d : Int × Int) : Nat → Int × Int
  | 0 => (0, 1)
  | k + 1 => djoin (dpow d k) d
def dred (d : Int × Int) : Prop := (0 ≤ d.1 ∧ d.1 < 2305843009213693951) ∧ (0 ≤ d.2 ∧ d.2 < 2305843009213693951)

theorem dred_join (a b : Int × Int) : dred (djoin a b) := by unfold dred djoin PP; omega
theorem dred_pow (d : Int × Int) (k : Nat) : dred (dpow d k) := by
  cases k with
  | zero => simp [dpow, dred]
  | succ k => exact dred_join _ _

theorem mod_of {x : Int} (h : 0 ≤ x) (h' : x < 2305843009213693951) : x % PP = x := Int.emod_eq_of_lt h h'

theorem djoin_assoc (a b c : Int × Int) : djoin (djoin a b) c = djoin a (djoin b c) := by
  unfold djoin
  refine Prod.ext ?_ ?_
  · show (((a.1 * b.2 % PP + b.1) % PP) * c.2 % PP + c.1) % PP = (a.1 * (b.2 * c.2 % PP) % PP + (b.1 * c.2 % PP + c.1) % PP) % PP
    have e1 : ((a.1 * b.2 % PP + b.1) % PP) * c.2 % PP = (a.1 * b.2 * c.2 + b.1 * c.2) % PP := by
      rw [Int.mul_emod, Int.emod_emod, Int.add_emod, Int.emod_emod, ← Int.add_emod, ← Int.mul_emod, Int.add_mul]
    have e2 : a.1 * (b.2 * c.2 % PP) % PP = a.1 * b.2 * c.2 % PP := by
      rw [Int.mul_emod, Int.emod_emod, ← Int.mul_emod, Int.mul_assoc]
    rw [e1, e2]
    generalize a.1 * b.2 * c.2 = x
    generalize b.1 * c.2 = y
    generalize c.1 = z
    unfold PP
    omega
  · show (a.2 * b.2 % PP) * c.2 % PP = a.2 * (b.2 * c.2 % PP) % PP
    rw [Int.mul_emod, Int.emod_emod, ← Int.mul_emod, Int.mul_emod a.2, Int.emod_emod, ← Int.mul_emod, Int.mul_assoc]

theorem djoin_unit_left {d : Int × Int} (h : dred d) : djoin (0, 1) d = d := by
  unfold djoin
  obtain ⟨⟨h1, h2⟩, h3, h4⟩ := h
  refine Prod.ext ?_ ?_
  · show (0 * d.2 % PP + d.1) % PP = d.1
    rw [Int.zero_mul, Int.zero_emod, Int.zero_add, mod_of h1 h2]
  · show 1 * d.2 % PP = d.2
    rw [Int.one_mul, mod_of h3 h4]

theorem djoin_unit_right {d : Int × Int} (h : dred d) : djoin d (0, 1) = d := by
  unfold djoin
  obtain ⟨⟨h1, h2⟩, h3, h4⟩ := h
  refine Prod.ext ?_ ?_
  · show (d.1 * 1 % PP + 0) % PP = d.1
    rw [Int.mul_one, Int.add_zero, Int.emod_emod, mod_of h1 h2]
  · show d.2 * 1 % PP = d.2
    rw [Int.mul_one, mod_of h3 h4]

theorem dpow_add (d : Int × Int) (hd : dred d) (m n : Nat) : dpow d (m + n) = djoin (dpow d m) (dpow d n) := by
  induction n with
  | zero => exact (djoin_unit_right (dred_pow d m)).symm
  | succ n ih => show djoin (dpow d (m + n)) d = djoin (dpow d m) (djoin (dpow d n) d); rw [ih, djoin_assoc]

theorem dpow_double (d : Int × Int) (hd : dred d) (k : Nat) : dpow (djoin d d) k = dpow d (2 * k) := by
  induction k with
  | zero => rfl
  | succ k ih =>
    show djoin (dpow (djoin d d) k) (djoin d d) = djoin (djoin (dpow d (2 * k)) d) d
    rw [ih, djoin_assoc]

theorem dpow_scale (d : Int × Int) (k : Nat) : (dpow d k).2 = d.2 ^ k % PP := by
  induction k with
  | zero => show (1 : Int) = d.2 ^ 0 % PP; rw [Int.pow_zero]; rfl
  | succ k ih => show (dpow d k).2 * d.2 % PP = _; rw [ih, Int.pow_succ, Int.mul_emod, Int.emod_emod, ← Int.mul_emod]

theorem powm {a : Int} {k : Nat} : (a % PP) ^ k % PP = a ^ k % PP := by
  induction k with
  | zero => rw [Int.pow_zero, Int.pow_zero]
  | succ k ih => rw [Int.pow_succ, Int.pow_succ, Int.mul_emod, ih, Int.emod_emod, ← Int.mul_emod]

def Wt.rep (t : Wt) (k : Int) : Wt :=
  ⟨t.len * k, t.lines * k, if t.lines = 0 then t.len * k else t.head, if t.lines = 0 then t.len * k else t.tail, (dpow (t.val, t.scale) k.toNat).1, (dpow (t.val, t.scale) k.toNat).2⟩

theorem WOk.dred {t : Wt} (h : WOk t) : dred (t.val, t.scale) := ⟨⟨h.val0, h.val1⟩, h.scale0⟩

theorem WOk.rep {t : Wt} (ht : WOk t) (k : Int) (hk : 1 ≤ k) (h : t.len * k ≤ 1152921504606846976) (hl : 1 ≤ t.len) : WOk (t.rep k) := by
  obtain ⟨n, rfl⟩ := Int.eq_ofNat_of_zero_le (a := k) (by omega)
  have hr := dred_pow (t.val, t.scale) n
  have hs := dpow_scale (t.val, t.scale) n
  obtain ⟨a1, a2, a3, a4, a5, a6, a7, a8, a9⟩ := ht
  obtain ⟨al, an, ah, at', av, as'⟩ := t
  simp only at *
  have hp : al * 1 ≤ al * (n : Int) := Int.mul_le_mul_of_nonneg_left hk (by omega)
  have hq : an * 1 ≤ an * (n : Int) := Int.mul_le_mul_of_nonneg_left hk (by omega)
  constructor
  · simp only [Wt.rep]; omega
  · simp only [Wt.rep]; omega
  · simp only [Wt.rep]; omega
  · simp only [Wt.rep]; intro h0
    have e1 : an = 0 := by omega
    simp only [e1, if_true]; exact ⟨trivial, trivial⟩
  · simp only [Wt.rep]; intro h0
    by_cases e1 : an = 0
    · simp [e1] at h0
    · obtain ⟨b1, b2, b3, b4⟩ := a5 e1
      simp only [e1, if_false]
      refine ⟨b1, b2, ?_, ?_⟩
      · have h3 : (an + ah + at') * (n : Int) ≤ al * (n : Int) := Int.mul_le_mul_of_nonneg_right (by omega) (by omega)
        have h4 : ah * 1 ≤ ah * (n : Int) := Int.mul_le_mul_of_nonneg_left hk b1
        have h5 : at' * 1 ≤ at' * (n : Int) := Int.mul_le_mul_of_nonneg_left hk b2
        rw [Int.add_mul, Int.add_mul] at h3
        omega
      · intro h1
        have e2 : an = 1 := by omega
        have e3 : (n : Int) = 1 := by rw [e2] at h1; omega
        rw [e3]; have := b4 e2; omega
  · exact hr.1.1
  · exact hr.1.2
  · simp only [Wt.rep]; intro h0; omega
  · simp only [Wt.rep, Int.toNat_natCast]
    rw [hs]
    show as' ^ n % PP = _
    rw [a9, powm, ← Int.pow_mul]
    congr 2
    have : al * (n : Int) = ((al.toNat * n : Nat) : Int) := by rw [Int.natCast_mul, Int.toNat_of_nonneg a1]
    rw [this, Int.toNat_natCast]

/-- The cells of a list of entries. -/
def entCells (L : List Ent) : List Value := L.flatMap Ent.vals

theorem flat_get {α : Type} (f : α → List Value) (m : Nat) : ∀ (L : List α), (∀ x ∈ L, (f x).length = m) → ∀ (i j : Nat) (hj : j < m) (x : α), L[i]? = some x → (L.flatMap f)[i * m + j]? = (f x)[j]? := by
  intro L
  induction L with
  | nil => intro _ i j hj x h; simp at h
  | cons y r ih =>
    intro hm i j hj x h
    have hy : (f y).length = m := hm y (by simp)
    cases i with
    | zero =>
      simp at h
      subst h
      rw [List.flatMap_cons, List.getElem?_append_left (by omega)]
      simp
    | succ i =>
      simp only [List.getElem?_cons_succ] at h
      rw [List.flatMap_cons, List.getElem?_append_right (by rw [hy, Nat.add_mul]; omega)]
      rw [← ih (fun z hz => hm z (by simp [hz])) i j hj x h]
      congr 1
      rw [hy, Nat.add_mul]; omega

theorem flat_len {α : Type} (f : α → List Value) (m : Nat) : ∀ (L : List α), (∀ x ∈ L, (f x).length = m) → (L.flatMap f).length = L.length * m := by
  intro L
  induction L with
  | nil => intro _; simp
  | cons y r ih =>
    intro hm
    rw [List.flatMap_cons, List.length_append, ih (fun z hz => hm z (by simp [hz])), hm y (by simp), List.length_cons, Nat.add_mul]
    omega

/-- A cell of an owned row. -/
theorem owns_cell {w : World} {base : Nat} {e : TypeId} {size : Nat} {n : Nat} {xs : List Value} {g cap : Nat}
    (h : w.ownsRow base e size (.slice (some ⟨g, 0, none⟩) n cap) n xs) (j : Nat) (u : Value) (hu : xs[j]? = some u) : w.cell? ⟨g, j, none⟩ = some u := by
  have := h.cells (g := g) rfl j u hu
  have hadd : (⟨g, 0, none⟩ : Addr).add j = ⟨g, j, none⟩ := by unfold Addr.add; split <;> simp_all
  rwa [hadd] at this

end Go.Proofs.YtclpndigmidjkaaGreat

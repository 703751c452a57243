/- The walk of evergreenlaw37.Store. -/
import Derived.Test.YtodmpcnpedpheaaGreatDoorRPat1
import Derived.Test.YtodmpcnpedpheaaGreatDoorRRch1
import Derived.Lib.SlBytesConst
import Derived.Test.YtodmpcnpedpheaaGreatDoorRR37c
import Derived.Test.YtodmpcnpedpheaaGreatDoorRBase
import Derived.Laws.StructEq
set_option linter.unusedSimpArgs false
set_option linter.unusedVariables false
namespace Go.Proofs.YtodmpcnpedpheaaGreatDoor
open Go.RowKit

theorem Kp.all0 {mb : Nat} {w w1 w' : World} (h0 : Fr0 w w1) (h : Kp w.heap.size mb w1 w') : Fr0 w w' :=
  ⟨h.os.trans (Fr.os h0), h.tape.trans (Fr.tape h0), h.output.trans (Fr.output h0), Nat.le_trans (Fr.size h0) h.size, fun k hk hn => (h.low k hk (Nat.lt_of_lt_of_le hk (Fr.size h0))).trans (Fr.block h0 k hk hn)⟩

end Go.Proofs.YtodmpcnpedpheaaGreatDoor

/- Laws of the statements about patches: one list of changes as an argument; lengths of patched texts. -/
set_option linter.unusedSimpArgs false
set_option linter.unusedVariables false
namespace Go.Proofs.YtodmpcnpedpheaaGreatDoor
open Go.RowKit

theorem RG.fr0 {α : Type} {vals : α → List Value} {size B : Nat} {w w' : World} {a : Option Addr} {xs : List α} (h : RG vals size B w a xs) (hf : Fr0 w w') : RG vals size B w' a xs := h.kept0 hf

end Go.Proofs.YtodmpcnpedpheaaGreatDoor

/- Plain words: pieces of a text and their letters; reading pieces from the left. No program. -/
set_option linter.unusedSimpArgs false
set_option linter.unusedVariables false
namespace Go.Proofs.YtodmpcnpedpheaaGreatDoor
open Go.RowKit

/-- A piece as it lies in memory. -/
structure Pm where
  text : Int
  from_ : Int
  n : Int

def Pm.vals (x : Pm) : List Value := [.int .i64 x.text, .int .i64 x.from_, .int .i64 x.n]

/-- A run of kept letters. -/
def runC (f : Int) (n : Nat) : List (Int × Int) := (List.range n).map fun (i : Nat) => (63, f + (i : Int))

theorem runC_len (f : Int) (n : Nat) : (runC f n).length = n := by simp [runC]
theorem runC_sub (f : Int) (n u m : Nat) (h : u + m ≤ n) : ((runC f n).drop u).take m = runC (f + (u : Int)) m := by
  apply List.ext_getElem
  · rw [List.length_take, List.length_drop, runC_len, runC_len]; omega
  · intro i h1 h2
    simp [runC]
    omega

/-- The letters of a piece. -/
def clP (tx : Int → List Int) (x : Pm) : List (Int × Int) := if x.text = 0 then runC x.from_ x.n.toNat else (cutL (tx x.text) x.from_ x.n).map embC

def flatP (tx : Int → List Int) (xs : List Pm) : List (Int × Int) := xs.flatMap (clP tx)

theorem flatP_cons (tx : Int → List Int) (x : Pm) (r : List Pm) : flatP tx (x :: r) = clP tx x ++ flatP tx r := rfl
theorem flatP_append (tx : Int → List Int) (a b : List Pm) : flatP tx (a ++ b) = flatP tx a ++ flatP tx b := by simp [flatP]

/-- A piece of a store. -/
structure POk (MT : Nat) (L : List Ent) (x : Pm) : Prop where
  f0 : 0 ≤ x.from_
  n0 : 0 ≤ x.n
  up : x.from_ + x.n ≤ 1152921504606846976
  text : x.text ≠ 0 → ∃ t d, BalZ L x.text t d ∧ x.from_ + x.n ≤ t.length ∧ t.length ≤ MT

theorem POk.len {MT : Nat} {L : List Ent} {x : Pm} (h : POk MT L x) : ((clP (txt L) x).length : Int) = x.n := by
  unfold clP
  have := h.f0
  have := h.n0
  by_cases h0 : x.text = 0
  · rw [if_pos h0, runC_len]; omega
  · rw [if_neg h0, List.length_map]
    obtain ⟨t, d, hb, hl, _⟩ := h.text h0
    rw [hb.text]
    exact cut_len h.f0 h.n0 hl

/-- A part of a piece. -/
theorem POk.sub {MT : Nat} {L : List Ent} {x : Pm} (h : POk MT L x) {u m : Int} (hu : 0 ≤ u) (hm : 0 ≤ m) (hl : u + m ≤ x.n) : POk MT L ⟨x.text, x.from_ + u, m⟩ ∧ clP (txt L) ⟨x.text, x.from_ + u, m⟩ = ((clP (txt L) x).drop u.toNat).take m.toNat := by
  have f0 := h.f0
  have n0 := h.n0
  have up := h.up
  refine ⟨⟨by show 0 ≤ x.from_ + u; omega, hm, by show x.from_ + u + m ≤ _; omega, fun h0 => ?_⟩, ?_⟩
  · obtain ⟨t, d, hb, hl2, hl3⟩ := h.text h0
    exact ⟨t, d, hb, by show x.from_ + u + m ≤ _; omega, hl3⟩
  · unfold clP
    by_cases h0 : x.text = 0
    · rw [if_pos h0, if_pos (show (⟨x.text, x.from_ + u, m⟩ : Pm).text = 0 from h0), runC_sub _ _ _ _ (by omega)]
      show runC (x.from_ + u) m.toNat = _
      congr 1
      omega
    · rw [if_neg h0, if_neg (show ¬ (⟨x.text, x.from_ + u, m⟩ : Pm).text = 0 from h0), ← List.map_drop, ← List.map_take]
      congr 1
      show cutL (txt L x.text) (x.from_ + u) m = _
      unfold cutL
      rw [List.drop_take, List.take_take, List.drop_drop]
      congr 1
      · omega
      · congr 1; omega

/-- What has not been read. -/
def restP (L : List Ent) (xs : List Pm) (u : Int) : List (Int × Int) := (flatP (txt L) xs).drop u.toNat

theorem restP_nil (L : List Ent) (u : Int) : restP L [] u = [] := by simp [restP, flatP]
theorem restP_zero (L : List Ent) (xs : List Pm) : restP L xs 0 = flatP (txt L) xs := by simp [restP]

/-- One step of the reader: m letters of the first piece. -/
theorem restP_step {MT : Nat} {L : List Ent} {x : Pm} {r : List Pm} (h : POk MT L x) {u m : Int} (hu : 0 ≤ u) (hm : 0 ≤ m) (hl : u + m ≤ x.n) :
    (restP L (x :: r) u).take m.toNat = clP (txt L) ⟨x.text, x.from_ + u, m⟩ ∧ (restP L (x :: r) u).drop m.toNat = restP L (x :: r) (u + m) ∧ (u + m = x.n → restP L (x :: r) (u + m) = restP L r 0) := by
  have hlen := h.len
  refine ⟨?_, ?_, ?_⟩
  · unfold restP
    rw [flatP_cons, List.drop_append_of_le_length (by omega), List.take_append_of_le_length (by rw [List.length_drop]; omega), (h.sub hu hm hl).2]
  · unfold restP
    rw [List.drop_drop, show u.toNat + m.toNat = (u + m).toNat by omega]
  · intro he
    rw [restP_zero]
    unfold restP
    rw [flatP_cons, List.drop_append_of_le_length (by omega), List.drop_of_length_le (by omega), List.nil_append]

theorem take_split {α : Type} (l : List α) (a b : Nat) (h : a ≤ b) : l.take b = l.take a ++ (l.drop a).take (b - a) := by
  conv => lhs; rw [show b = a + (b - a) by omega]
  rw [List.take_add]

/-- The reader's state while it reads up tgt an offset: from (ys0, xs0, u0, at0). -/
structure RdS (MT : Nat) (L : List Ent) (G1 G2 : List (Int × Int)) (C : Int) (K : Nat) (tgt : Int) (ys xs : List Pm) (u at_ : Int) : Prop where
  g1 : flatP (txt L) ys ++ (restP L xs u).take (tgt - at_).toNat = G1
  g2 : (restP L xs u).drop (tgt - at_).toNat = G2
  c : at_ + ((restP L xs u).length : Int) = C
  k : ys.length + xs.length + (if at_ < tgt then 1 else 0) ≤ K
  oy : ∀ y ∈ ys, POk MT L y ∧ 0 < y.n
  ox : ∀ x ∈ xs, POk MT L x
  u0 : 0 ≤ u
  a0 : 0 ≤ at_
  ux : ∀ x r, xs = x :: r → u < x.n ∨ (u = 0 ∧ x.n = 0)

theorem RdS.next {MT : Nat} {L : List Ent} {G1 G2 : List (Int × Int)} {C : Int} {K : Nat} {tgt : Int} {ys : List Pm} {x : Pm} {r : List Pm} {u at_ m : Int} (h : RdS MT L G1 G2 C K tgt ys (x :: r) u at_) (hlt : at_ < tgt) (hm : m = min (x.n - u) (tgt - at_)) :
    (0 < m → RdS MT L G1 G2 C K tgt (ys ++ [⟨x.text, x.from_ + u, m⟩]) (if u + m = x.n then r else x :: r) (if u + m = x.n then 0 else u + m) (at_ + m)) ∧
    (m = 0 → RdS MT L G1 G2 C K tgt ys r 0 at_) := by
  have hx := h.ox x (by simp)
  have hu := h.u0
  have hux := h.ux x r rfl
  have hn0 := hx.n0
  have hm0 : 0 ≤ m := by omega
  have hml : u + m ≤ x.n := by omega
  obtain ⟨s1, s2, s3⟩ := restP_step (r := r) hx hu hm0 hml
  have hsub := hx.sub hu hm0 hml
  have hmt : m.toNat ≤ (tgt - at_).toNat := by omega
  have hg1 := h.g1
  have hg2 := h.g2
  have hc := h.c
  have hk := h.k
  rw [if_pos hlt] at hk
  have hrl : ((restP L (x :: r) u).length : Int) = m + ((restP L (x :: r) (u + m)).length : Int) := by
    rw [← s2, List.length_drop]
    have q1 := congrArg List.length s1
    rw [List.length_take] at q1
    have q2 : ((clP (txt L) ⟨x.text, x.from_ + u, m⟩).length : Int) = m := hsub.1.len
    omega
  constructor
  · intro hpos
    have e1 : restP L (if u + m = x.n then r else x :: r) (if u + m = x.n then 0 else u + m) = (restP L (x :: r) u).drop m.toNat := by
      by_cases he : u + m = x.n
      · rw [if_pos he, if_pos he, s2, s3 he]
      · rw [if_neg he, if_neg he, s2]
    refine ⟨?_, ?_, ?_, ?_, ?_, ?_, ?_, ?_, ?_⟩
    · rw [e1, flatP_append, ← hg1, take_split (restP L (x :: r) u) m.toNat (tgt - at_).toNat hmt, s1, List.append_assoc]
      congr 1
      show clP (txt L) _ ++ [] ++ _ = _
      rw [List.append_nil]
      congr 2
      omega
    · rw [e1, List.drop_drop, ← hg2]
      congr 1
      omega
    · rw [e1, s2]
      omega
    · rw [List.length_append, List.length_singleton]
      by_cases he : u + m = x.n
      · rw [if_pos he]
        simp only [List.length_cons] at hk
        split <;> omega
      · rw [if_neg he, if_neg (by omega)]
        omega
    · intro y hy
      rcases List.mem_append.1 hy with hy | hy
      · exact h.oy y hy
      · simp only [List.mem_singleton] at hy
        subst hy
        exact ⟨hsub.1, hpos⟩
    · intro y hy
      split at hy
      · exact h.ox y (by simp [hy])
      · exact h.ox y hy
    · split <;> omega
    · have := h.a0; omega
    · intro y s hy
      by_cases he : u + m = x.n
      · rw [if_pos he] at hy ⊢
        have := (h.ox y (by rw [hy]; simp)).n0
        omega
      · rw [if_neg he] at hy ⊢
        cases hy
        omega
  · intro hz
    have e0 : x.n = 0 ∧ u = 0 := by omega
    have e1 : restP L (x :: r) u = restP L r 0 := by
      have := s3 (by omega)
      rw [show u + m = u by omega] at this
      exact this
    rw [e1] at hg1 hg2 hc
    refine ⟨hg1, hg2, hc, ?_, h.oy, fun y hy => h.ox y (by simp [hy]), by omega, h.a0, fun y s hy => ?_⟩
    · simp only [List.length_cons] at hk
      rw [if_pos hlt]
      omega
    · have := (h.ox y (by rw [hy]; simp)).n0
      omega

/-- At the end. -/
theorem RdS.done {MT : Nat} {L : List Ent} {G1 G2 : List (Int × Int)} {C : Int} {K : Nat} {tgt : Int} {ys xs : List Pm} {u at_ : Int} (h : RdS MT L G1 G2 C K tgt ys xs u at_) (hd : xs = [] ∨ tgt ≤ at_) : flatP (txt L) ys = G1 ∧ restP L xs u = G2 := by
  have hg1 := h.g1
  have hg2 := h.g2
  rcases hd with rfl | hd
  · rw [restP_nil] at hg1 hg2
    simp at hg1 hg2
    exact ⟨hg1, by rw [restP_nil]; exact hg2.symm⟩
  · rw [show (tgt - at_).toNat = 0 by omega] at hg1 hg2
    simp at hg1 hg2
    exact ⟨hg1, hg2⟩

end Go.Proofs.YtodmpcnpedpheaaGreatDoor

/- Plain words: the changes between a text and letters that remember it; pieces; what they lead to. No program. -/
set_option linter.unusedSimpArgs false
set_option linter.unusedVariables false
namespace Go.Proofs.YtodmpcnpedpheaaGreatDoor
open Go.RowKit

/-- A change, if there is one. -/
def chgIf (next from_ : Int) (tx : List Int) : List PC := if next < from_ ∨ tx ≠ [] then [⟨next, from_ - next, tx⟩] else []

theorem chgIf_yes {next from_ : Int} {tx : List Int} (h : next < from_ ∨ tx ≠ []) : chgIf next from_ tx = [⟨next, from_ - next, tx⟩] := if_pos h
theorem chgIf_no {next from_ : Int} {tx : List Int} (h : ¬ (next < from_ ∨ tx ≠ [])) : chgIf next from_ tx = [] := if_neg h

/-- The changes that lead from a text of a length to letters. -/
def btw (len : Int) : Int → List Int → List (Int × Int) → List PC
  | next, tx, [] => chgIf next len tx
  | next, tx, c :: r => if c.2 < 0 then btw len next (tx ++ [c.1]) r else chgIf next c.2 tx ++ btw len (c.2 + 1) [] r

/-- The kept letters, in order, from an offset on and before a length. -/
def keptF (F : List (Int × Int)) : List Int := (F.filter fun c => decide (0 ≤ c.2)).map Prod.snd

theorem keptF_pos {c : Int × Int} {r : List (Int × Int)} (h : ¬ c.2 < 0) : keptF (c :: r) = c.2 :: keptF r := by
  unfold keptF
  rw [List.filter_cons, if_pos (by simp; omega), List.map_cons]

/-- Letters that remember a text of a length, from an offset on. -/
structure Mem (n next : Int) (F : List (Int × Int)) : Prop where
  ord : (keptF F).Pairwise (· < ·)
  rng : ∀ k ∈ keptF F, next ≤ k ∧ k < n

theorem Mem.pos {n next : Int} {c : Int × Int} {r : List (Int × Int)} (h : Mem n next (c :: r)) (hc : ¬ c.2 < 0) : next ≤ c.2 ∧ c.2 < n ∧ Mem n (c.2 + 1) r := by
  have h1 := h.ord
  have h2 := h.rng
  rw [keptF_pos hc] at h1 h2
  have h3 := List.pairwise_cons.1 h1
  refine ⟨(h2 _ (by simp)).1, (h2 _ (by simp)).2, h3.2, fun k hk => ⟨?_, (h2 k (by simp [hk])).2⟩⟩
  have := h3.1 k hk
  omega

theorem keptF_run (n : Nat) : keptF (runC 0 n) = (List.range n).map fun (i : Nat) => (i : Int) := by
  unfold keptF runC
  rw [List.filter_map, List.filter_eq_self.2, List.map_map]
  · apply List.map_congr_left
    intro i _
    simp [Function.comp]
  · intro i _
    simp only [Function.comp]
    exact decide_eq_true (by omega)

theorem Mem.run (n : Nat) : Mem n 0 (runC 0 n) := by
  constructor
  · rw [keptF_run, List.pairwise_map]
    exact List.pairwise_lt_range.imp (fun h => by omega)
  · intro k hk
    rw [keptF_run] at hk
    obtain ⟨i, hi, rfl⟩ := List.mem_map.1 hk
    have := List.mem_range.1 hi
    omega

end Go.Proofs.YtodmpcnpedpheaaGreatDoor

/- The first script (plain): the program's patch is that of the reference. -/
set_option linter.unusedSimpArgs false
set_option linter.unusedVariables false
namespace Go.Proofs.YtodmpcnpedpheaaGreatDoor

/-- The letters of the second text between two offsets. -/
def seg (B : List Int) (fy y : Nat) : List Int := (B.drop fy).take (y - fy)

/-- A change, if it changes anything. -/
def chgS (B : List Int) (fx x fy y : Nat) : List PC := if x = fx ∧ y = fy then [] else [⟨fx, (x : Int) - fx, seg B fy y⟩]

/-- The program's script: from a number of edits on. -/
def scrF (A B : List Int) : Nat → Nat → Nat → Nat → Nat → List PC
  | 0, x, y, fx, fy => chgS B fx x fy y
  | e + 1, x, y, fx, fy =>
    let s := cpl (A.drop x) (B.drop y)
    let fl := if 0 < s then chgS B fx x fy y else []
    let x1 := x + s
    let y1 := y + s
    let fx1 := if 0 < s then x + s else fx
    let fy1 := if 0 < s then y + s else fy
    if x1 < A.length ∧ atF A B e ((x1 : Int) + 1 - y1) ≤ (x1 : Int) + 1 then fl ++ scrF A B e (x1 + 1) y1 fx1 fy1
    else if y1 < B.length then fl ++ scrF A B e x1 (y1 + 1) fx1 fy1
    else fl ++ scrF A B e x1 y1 fx1 fy1

/-- The reference's letters. -/
def celF (A B : List Int) : Nat → Nat → Nat → List (Int × Int)
  | 0, _, _ => []
  | f + 1, i, j =>
    if i < A.length ∧ j < B.length ∧ A.getD i 0 = B.getD j 0 then (A.getD i 0, (i : Int)) :: celF A B f (i + 1) (j + 1)
    else if i < A.length ∧ edp A B i j = 1 + edp A B (i + 1) j then celF A B f (i + 1) j
    else if j < B.length then (B.getD j 0, -1) :: celF A B f i (j + 1) else []

theorem seg_self (B : List Int) (y : Nat) : seg B y y = [] := by unfold seg; simp
theorem seg_next (B : List Int) {fy y : Nat} (h : fy ≤ y) (hy : y < B.length) : seg B fy (y + 1) = seg B fy y ++ [B.getD y 0] := by
  unfold seg
  rw [show y + 1 - fy = (y - fy) + 1 by omega]
  have hl : y - fy < (B.drop fy).length := by rw [List.length_drop]; omega
  rw [List.take_succ_eq_append_getElem hl, List.getElem_drop, List.getD_eq_getElem?_getD, List.getElem?_eq_getElem hy]
  simp only [show fy + (y - fy) = y by omega]
  rfl
theorem seg_nil {B : List Int} {fy y : Nat} (h : fy ≤ y) (hy : y ≤ B.length) : seg B fy y = [] ↔ y = fy := by
  constructor
  · intro e
    have := congrArg List.length e
    unfold seg at this
    rw [List.length_take, List.length_drop] at this
    simp at this
    omega
  · rintro rfl; exact seg_self B y

theorem chgS_if {B : List Int} {fx x fy y : Nat} (hx : fx ≤ x) (hy : fy ≤ y) (hyB : y ≤ B.length) : chgIf fx x (seg B fy y) = chgS B fx x fy y := by
  unfold chgS
  by_cases h : x = fx ∧ y = fy
  · rw [if_pos h, chgIf_no]
    obtain ⟨h1, h2⟩ := h
    rw [h2, seg_self, h1]
    simp
  · rw [if_neg h, chgIf_yes]
    by_cases h1 : x = fx
    · exact .inr (fun e => h ⟨h1, (seg_nil hy hyB).1 e⟩)
    · exact .inl (by omega)

theorem celF_keep {A B : List Int} {f i j : Nat} (h1 : i < A.length) (h2 : j < B.length) (h3 : A.getD i 0 = B.getD j 0) : celF A B (f + 1) i j = (A.getD i 0, (i : Int)) :: celF A B f (i + 1) (j + 1) := by
  rw [celF, if_pos ⟨h1, h2, h3⟩]
theorem celF_del {A B : List Int} {f i j : Nat} (h0 : ¬ (i < A.length ∧ j < B.length ∧ A.getD i 0 = B.getD j 0)) (h1 : i < A.length) (h2 : edp A B i j = 1 + edp A B (i + 1) j) : celF A B (f + 1) i j = celF A B f (i + 1) j := by
  rw [celF, if_neg h0, if_pos ⟨h1, h2⟩]
theorem celF_ins {A B : List Int} {f i j : Nat} (h0 : ¬ (i < A.length ∧ j < B.length ∧ A.getD i 0 = B.getD j 0)) (h1 : ¬ (i < A.length ∧ edp A B i j = 1 + edp A B (i + 1) j)) (h2 : j < B.length) : celF A B (f + 1) i j = (B.getD j 0, -1) :: celF A B f i (j + 1) := by
  rw [celF, if_neg h0, if_neg h1, if_pos h2]
theorem celF_end {A B : List Int} {f i j : Nat} (h1 : A.length ≤ i) (h2 : B.length ≤ j) : celF A B f i j = [] := by
  cases f with
  | zero => rfl
  | succ f => rw [celF, if_neg (by omega), if_neg (by omega), if_neg (by omega)]

/-- Kept letters, one after the other. -/
theorem btw_keep {A B : List Int} : ∀ (s f x y : Nat) (next : Int) (tx : List Int), 0 < s → x + s ≤ A.length → y + s ≤ B.length → (∀ i, i < s → A.getD (x + i) 0 = B.getD (y + i) 0) →
    btw A.length next tx (celF A B (s + f) x y) = chgIf next x tx ++ btw A.length ((x + s : Nat) : Int) [] (celF A B f (x + s) (y + s)) := by
  intro s
  induction s with
  | zero => intro f x y next tx h; omega
  | succ s ih =>
    intro f x y next tx _ hx hy h
    have h0 : A.getD x 0 = B.getD y 0 := by simpa using h 0 (by omega)
    rw [show s + 1 + f = (s + f) + 1 by omega, celF_keep (i := x) (j := y) (by omega) (by omega) h0, btw, if_neg (show ¬ ((A.getD x 0, (x : Int)) : Int × Int).2 < 0 by show ¬ (x : Int) < 0; omega)]
    show chgIf next x tx ++ btw A.length ((x : Int) + 1) [] (celF A B (s + f) (x + 1) (y + 1)) = _
    congr 1
    by_cases c : s = 0
    · subst c
      rw [show 0 + f = f by omega]
      congr 1
    · have := ih f (x + 1) (y + 1) ((x : Int) + 1) [] (by omega) (by omega) (by omega) (fun i hi => by
        have := h (i + 1) (by omega)
        rw [show x + (i + 1) = x + 1 + i by omega, show y + (i + 1) = y + 1 + i by omega] at this
        exact this)
      rw [this, chgIf_no (by simp), List.nil_append, show x + 1 + s = x + (s + 1) by omega, show y + 1 + s = y + (s + 1) by omega]

theorem cpl_drop {A B : List Int} {x y : Nat} (hx : x ≤ A.length) (hy : y ≤ B.length) :
    x + cpl (A.drop x) (B.drop y) ≤ A.length ∧ y + cpl (A.drop x) (B.drop y) ≤ B.length ∧ (∀ i, i < cpl (A.drop x) (B.drop y) → A.getD (x + i) 0 = B.getD (y + i) 0) ∧
    (x + cpl (A.drop x) (B.drop y) < A.length → y + cpl (A.drop x) (B.drop y) < B.length → A.getD (x + cpl (A.drop x) (B.drop y)) 0 ≠ B.getD (y + cpl (A.drop x) (B.drop y)) 0) := by
  have hl := cpl_le (A.drop x) (B.drop y)
  rw [List.length_drop, List.length_drop] at hl
  have gd : ∀ (C : List Int) (z i : Nat), (C.drop z).getD i 0 = C.getD (z + i) 0 := fun C z i => by
    rw [List.getD_eq_getElem?_getD, List.getD_eq_getElem?_getD, List.getElem?_drop]
  refine ⟨by omega, by omega, fun i hi => ?_, fun h1 h2 => ?_⟩
  · have := cpl_get _ _ i hi
    rwa [gd, gd] at this
  · have := cpl_stop (A.drop x) (B.drop y) (by rw [List.length_drop]; omega) (by rw [List.length_drop]; omega)
    rwa [gd, gd] at this

theorem OP.keeps {A B : List Int} {x y : Nat} (h : OP A B x y) : ∀ s, x + s ≤ A.length → y + s ≤ B.length → (∀ i, i < s → A.getD (x + i) 0 = B.getD (y + i) 0) → OP A B (x + s) (y + s) ∧ edp A B (x + s) (y + s) = edp A B x y
  | 0, _, _, _ => ⟨h, rfl⟩
  | s + 1, h1, h2, h3 => by
    obtain ⟨g1, g2⟩ := OP.keeps h s (by omega) (by omega) (fun i hi => h3 i (by omega))
    have e := h3 s (by omega)
    exact ⟨g1.keep (by omega) (by omega) e, by rw [← g2]; exact (edp_match A B (by omega) (by omega) e).symm⟩

theorem scr_ref {A B : List Int} (hn : A.length ≤ 1152921504606846976) (hG : edp A B 0 0 ≤ 256) : ∀ (e f x y fx fy : Nat), OP A B x y → edp A B x y = e → fx ≤ x → fy ≤ y → (A.length - x) + (B.length - y) ≤ f →
    btw A.length fx (seg B fy y) (celF A B f x y) = scrF A B e x y fx fy := by
  intro e
  induction e with
  | zero =>
    intro f x y fx fy hO he hfx hfy hf
    have hle := hO.le
    obtain ⟨c1, c2, c3, c4⟩ := cpl_drop (A := A) (B := B) hle.1 hle.2
    have heq : A.drop x = B.drop y := ed_zero _ _ he
    have hcl : cpl (A.drop x) (B.drop y) = A.length - x := by
      have h1 : A.length - x ≤ cpl (A.drop x) (B.drop y) := cpl_max _ _ _ (by rw [List.length_drop]; exact Nat.le_refl _) (by rw [← heq, List.length_drop]; exact Nat.le_refl _) (fun i _ => by rw [heq])
      omega
    have hlen : A.length - x = B.length - y := by rw [← List.length_drop, ← List.length_drop, heq]
    show _ = chgS B fx x fy y
    by_cases c : A.length = x
    · rw [celF_end (by omega) (by omega), btw, c]
      exact chgS_if hfx hfy hle.2
    · obtain ⟨f', rfl⟩ : ∃ f', f = (A.length - x) + f' := ⟨f - (A.length - x), by omega⟩
      rw [btw_keep (A.length - x) f' x y _ _ (by omega) (by omega) (by omega) (by rw [← hcl]; exact c3), celF_end (by omega) (by omega), btw, chgS_if hfx hfy hle.2, chgIf_no, List.append_nil]
      rintro (h | h)
      · omega
      · exact h rfl
  | succ e ih =>
    intro f x y fx fy hO he hfx hfy hf
    have hle := hO.le
    obtain ⟨c1, c2, c3, c4⟩ := cpl_drop (A := A) (B := B) hle.1 hle.2
    obtain ⟨o1, o2⟩ := hO.keeps _ c1 c2 c3
    rw [scrF]
    try dsimp only
    generalize cpl (A.drop x) (B.drop y) = s at *
    rw [he] at o2
    -- what comes behind the kept letters
    have rest : ∀ (f fx fy : Nat), fx ≤ x + s → fy ≤ y + s → (A.length - (x + s)) + (B.length - (y + s)) ≤ f →
        btw A.length fx (seg B fy (y + s)) (celF A B f (x + s) (y + s)) = if x + s < A.length ∧ atF A B e (((x + s : Nat) : Int) + 1 - (y + s : Nat)) ≤ ((x + s : Nat) : Int) + 1 then scrF A B e (x + s + 1) (y + s) fx fy else if y + s < B.length then scrF A B e (x + s) (y + s + 1) fx fy else scrF A B e (x + s) (y + s) fx fy := by
      intro f fx fy hfx hfy hf
      have hno : ¬ (x + s < A.length ∧ y + s < B.length ∧ A.getD (x + s) 0 = B.getD (y + s) 0) := fun h => c4 h.1 h.2.1 h.2.2
      have hpos : 0 < f := by
        rcases Nat.eq_zero_or_pos f with h | h
        · rw [edp_endA A B (by omega)] at o2; omega
        · exact h
      obtain ⟨f', rfl⟩ : ∃ f', f = f' + 1 := ⟨f - 1, by omega⟩
      by_cases hd : x + s < A.length ∧ edp A B (x + s) (y + s) = 1 + edp A B (x + s + 1) (y + s)
      · have ht := (atF_tells hn hG o1 o2 hd.1).2 (by omega)
        rw [if_pos ⟨hd.1, ht⟩, celF_del hno hd.1 hd.2]
        exact ih f' (x + s + 1) (y + s) fx fy (o1.del hd.1 hd.2) (by omega) (by omega) hfy (by omega)
      · have hy : y + s < B.length := by
          rcases Nat.lt_or_ge (y + s) B.length with h | h
          · exact h
          · exfalso
            have h1 := edp_endB A B (x := x + s) h
            have h2 := edp_endB A B (x := x + s + 1) h
            apply hd
            omega
        have hi : edp A B (x + s) (y + s) = 1 + edp A B (x + s) (y + s + 1) := by
          by_cases hx : x + s < A.length
          · have h1 := edp_diff A B hx hy (c4 hx hy)
            have h2 : edp A B (x + s) (y + s) ≠ 1 + edp A B (x + s + 1) (y + s) := fun h => hd ⟨hx, h⟩
            omega
          · have h1 := edp_endA A B (x := x + s) (y := y + s) (by omega)
            have h2 := edp_endA A B (x := x + s) (y := y + s + 1) (by omega)
            omega
        have hnt : ¬ (x + s < A.length ∧ atF A B e (((x + s : Nat) : Int) + 1 - (y + s : Nat)) ≤ ((x + s : Nat) : Int) + 1) := by
          rintro ⟨h1, h2⟩
          have := (atF_tells hn hG o1 o2 h1).1 h2
          exact hd ⟨h1, by omega⟩
        rw [if_neg hnt, if_pos hy, celF_ins hno hd hy, btw, if_pos (show ((B.getD (y + s) 0, -1) : Int × Int).2 < 0 by show (-1 : Int) < 0; decide)]
        show btw A.length fx (seg B fy (y + s) ++ [B.getD (y + s) 0]) (celF A B f' (x + s) (y + s + 1)) = _
        rw [← seg_next B hfy hy]
        exact ih f' (x + s) (y + s + 1) fx fy (o1.ins hy hi) (by omega) hfx (by omega) (by omega)
    by_cases hs : 0 < s
    · rw [if_pos hs, if_pos hs, if_pos hs]
      obtain ⟨f', rfl⟩ : ∃ f', f = s + f' := ⟨f - s, by omega⟩
      rw [btw_keep s f' x y _ _ hs c1 c2 c3, chgS_if hfx hfy hle.2]
      have := rest f' (x + s) (y + s) (Nat.le_refl _) (Nat.le_refl _) (by omega)
      rw [seg_self] at this
      rw [this]
      split
      · rfl
      · split <;> rfl
    · have hs0 : s = 0 := by omega
      subst hs0
      rw [if_neg hs, if_neg hs, if_neg hs]
      have := rest f fx fy hfx hfy hf
      simp only [Nat.add_zero] at this ⊢
      rw [this]
      split
      · rfl
      · split <;> rfl

/-- The program's patch is the reference's. -/
theorem scr_of {A B : List Int} (hn : A.length ≤ 1152921504606846976) (hG : edp A B 0 0 ≤ 256) : scrF A B (edp A B 0 0) 0 0 0 0 = btw A.length 0 [] (celF A B (A.length + B.length) 0 0) := by
  have := scr_ref hn hG (edp A B 0 0) (A.length + B.length) 0 0 0 0 .zero rfl (Nat.le_refl _) (Nat.le_refl _) (by omega)
  rw [seg_self] at this
  exact this.symm

end Go.Proofs.YtodmpcnpedpheaaGreatDoor

/- The walks of evergreenlaw37.From and of evergreenref37.Same at equal lists. -/
set_option linter.unusedSimpArgs false
set_option linter.unusedVariables false
namespace Go.Proofs.YtodmpcnpedpheaaGreatDoor
open Go.RowKit

/-- A plain change with a string. -/
def PC.ps (c : PC) : PS := ⟨c.at_, c.n, strOfNums c.text⟩

theorem info_ps : (Tryz.prog.info? 106).map (fun i => (i.zero, i.size, i.bytes)) = some (some (.agg #[.int .i64 0, .int .i64 0, .string ByteArray.empty]), 3, 32) := by kernel_rfl
theorem rt_ps : RT 61 106 3 32 := by
  obtain ⟨i, h1, h2, h3, h4⟩ := info_parts info_ps
  exact ⟨by omega, i, _, Tryz.underlying61, h1, h2, h3, h4, rfl⟩

set_option maxRecDepth 100000 in
set_option maxHeartbeats 2000000 in
theorem law37_From {B : Nat} {w : World} {p mb : Nat} {most : Int} {L : List Ent} (hS : Sto B w p mb most L) (hO : SOk L) (hD : DOk L) (hBig : L.length ≤ 1000000) {ps : List PC} {cs : List Chg} {a : Option Addr} {cap : Nat} (hC : RG Chg.vals 3 B w a cs) (hP : PChg L cs ps) (hl : cs.length ≤ 100000) (ht : ∀ c ∈ ps, c.text.length ≤ 4096) :
    Calls Tryz.prog 19 #[.pointer (some ⟨p, 0, none⟩), .slice a cs.length cap] w fun e w' => ∃ v, e = .returned (.tuple #[v, .bool true]) ∧ OwnG PS.vals 106 3 w w' v (ps.map PC.ps) := by
  have HCL := Lib.hid hP.len
  have HS := Lib.hid hS
  have HO := Lib.hid hO
  have HD := Lib.hid hD
  have HC := Lib.hid hC
  have HP := Lib.hid hP
  have HT := Lib.hid ht
  clear hS hO hD hC hP ht
  go_enter Tryz.func19, Tryz.ntmps19
  go_wp2_with fail
  go_loopw [6, 13] (fun v i wr => ∃ k : Nat, k ≤ cs.length ∧ i = .int .i64 k ∧ OwnG PS.vals 106 3 w wr v ((ps.take k).map PC.ps)) (fun _ i _ => cs.length - (intOf i).toNat)
  case atStart => exact ⟨0, Nat.zero_le _, rfl, OwnG.nil _ _ _ (Fr0.refl w)⟩
  case round =>
    obtain ⟨k, hk, rfl, hO1⟩ := hrel
    by_cases hlt : k < cs.length
    · have hlt2 : k < ps.length := by have := HCL.out; omega
      obtain ⟨b, off, rfl, lb, _, hc⟩ := (HC.out.kept0 hO1.fr) k hlt
      have c0 := hc 0 _ rfl
      have c1 := hc 1 _ rfl
      have c2 := hc 2 _ rfl
      rw [Nat.add_zero] at c0
      obtain ⟨g1, g2, dx, hbx⟩ := HP.out.get k hlt hlt2
      have CP := Lib.hid (fun W (hW : Fr0 wr W) => law37_Plain (HS.out.kept0 (hO1.fr.trans hW)) HO.out HD.out hBig hbx (HT.out _ (List.getElem_mem _)))
      have HTK : Hid ((ps.take (k + 1)).map PC.ps = (ps.take k).map PC.ps ++ [⟨cs[k].at_, cs[k].n, strOfNums ps[k].text⟩]) := by
        show _ = _
        rw [List.take_succ_eq_append_getElem hlt2, List.map_append, g1, g2]; rfl
      have HO1 := Lib.hid hO1
      have hxl : ((ps.take k).map PC.ps).length ≤ 1000000 := by rw [List.length_map, List.length_take]; omega
      clear hc g1 g2 hbx HC HS HO HD HP HT hO1
      generalize cs[k] = c at *
      generalize strOfNums ps[k].text = tx at *
      generalize (ps.take k).map PC.ps = xs at *
      go_wp2_with fail
      refine (CP.out _ ((Fr0.refl wr).alloc _)).mono ?_
      rintro e w3 ⟨rfl, f3⟩
      have hr3 := f3.kept (b := wr.heap.size) (alloc_at wr _ _ rfl)
      have F3 := ((Fr0.refl wr).alloc (.cells #[.int .i64 c.at_, .int .i64 c.n, .int .i64 c.text] 72 (0, 0))).trans f3
      obtain ⟨e0, e1, e2, _, le⟩ := cells3 hr3
      have hrow := F3.owns HO1.out.row
      have hbs : w.heap.size ≤ w3.heap.size := Fr.size (HO1.out.fr.trans F3)
      clear f3 hr3 CP
      go_wp2_with (at_builtin; refine wpList_pushG (vals := PS.vals) rt_ps rfl _ _ rfl w.heap.size _ xs rfl hrow hbs 106 ⟨c.at_, c.n, tx⟩ #[.int .i64 c.at_, .int .i64 c.n, .string tx] rfl rfl (by simp [PS.vals, Value.oneCell']) 1 _ rfl rfl (by omega) hxl ?_; intro v' w4 hO4 hg4 hat4)
      have hX := HO1.out.grown (F3.alloc _) hO4 hg4
      go_roundw
      case rel => exact ⟨k + 1, by omega, by go_num, by rw [HTK.out]; exact hX⟩
      case measure => simp [intOf]; omega
    · have hke : ps.take k = ps := List.take_of_length_le (by have := HCL.out; omega)
      rw [hke] at hO1
      have HO1 := Lib.hid hO1
      clear hO1 hke HC HS HO HD HP HT
      go_wp2_with fail
      go_ret2
      exact ⟨_, rfl, HO1.out⟩

set_option maxRecDepth 100000 in
set_option maxHeartbeats 1000000 in
theorem ref37_Same {B B' : Nat} {w : World} {a b : Option Addr} {cap cap' : Nat} {ps : List PS} (hA : RG PS.vals 3 B w a ps) (hB : RG PS.vals 3 B' w b ps) (hl : ps.length ≤ 1000000) :
    Calls Tryz.prog 21 #[.slice a ps.length cap, .slice b ps.length cap'] w fun e w' => e = .returned (.bool true) ∧ Fr0 w w' := by
  have HA := Lib.hid hA
  have HB := Lib.hid hB
  clear hA hB
  go_enter Tryz.func21, Tryz.ntmps21
  go_wp2_with fail
  go_loopw [13] (fun i wr => ∃ k : Nat, k ≤ ps.length ∧ i = .int .i64 k ∧ Fr0 w wr) (fun i _ => ps.length - (intOf i).toNat)
  case atStart => exact ⟨0, Nat.zero_le _, rfl, Fr0.refl w⟩
  case round =>
    obtain ⟨k, hk, rfl, hfr⟩ := hrel
    by_cases hlt : k < ps.length
    · obtain ⟨b1, off1, rfl, lb1, _, hc1⟩ := (HA.out.kept0 hfr) k hlt
      obtain ⟨b2, off2, rfl, lb2, _, hc2⟩ := (HB.out.kept0 hfr) k hlt
      have c0 := hc1 0 _ rfl
      have c1 := hc1 1 _ rfl
      have c2 := hc1 2 _ rfl
      rw [Nat.add_zero] at c0
      have d0 := hc2 0 _ rfl
      have d1 := hc2 1 _ rfl
      have d2 := hc2 2 _ rfl
      rw [Nat.add_zero] at d0
      clear hc1 hc2 HA HB
      generalize ps[k] = c at *
      go_upto_region 6 with fail
      go_quiet (fail)
      go_wp2_with fail
      go_roundw
      case rel => exact ⟨k + 1, by omega, by go_num, hfr.drewN _⟩
      case measure => simp [intOf]; omega
    · go_wp2_with fail
      go_ret
      exact ⟨rfl, hfr⟩

end Go.Proofs.YtodmpcnpedpheaaGreatDoor

/- The walks of evergreenref37's Between and Compose. -/
set_option linter.unusedSimpArgs false
set_option linter.unusedVariables false
namespace Go.Proofs.YtodmpcnpedpheaaGreatDoor
open Go.RowKit

theorem str_len (t : List Int) : (strOfNums t).size = t.length := by
  show (strOfNums t).data.size = _
  rw [← Array.length_toList, strOfNums_data, List.length_map]
theorem str_empty {t : List Int} : (strOfNums t).toList = [] ↔ t = [] := by
  rw [ByteArray.toList_eq, strOfNums_data, List.map_eq_nil_iff]
theorem str_app (t u : List Int) : strOfNums t ++ strOfNums u = strOfNums (t ++ u) := by
  apply ByteArray.ext
  apply Array.toList_inj.1
  rw [ByteArray.data_append, Array.toList_append, strOfNums_data, strOfNums_data, strOfNums_data, List.map_append]

theorem conv_one (w : World) (x : Int) : (convert 70 9 (.slice (some ⟨w.heap.size, 0, none⟩) 1 1)).run Tryz.prog (w.alloc (.cells #[.int .u8 x] 5 (0, 0))) = .ok (.string (strOfNums [x])) (w.alloc (.cells #[.int .u8 x] 5 (0, 0))) := by
  refine run_convert_bytes_arg _ 70 5 Tryz.underlying70 Tryz.underlying5 w.heap.size 0 1 1 [x] rfl ?_ 9 Tryz.underlying9
  intro i hi
  have : i = 0 := by omega
  subst this
  rw [cell_of_block (alloc_at w _ _ rfl)]
  rfl

/-- What is still to come. -/
def btwK (len next : Int) (tx : List Int) (F : List (Int × Int)) (k : Nat) : List PC := if k ≤ F.length then btw len next tx (F.drop k) else []

theorem btwK_neg {len next : Int} {tx : List Int} {F : List (Int × Int)} {k : Nat} (h : k < F.length) (hc : F[k].2 < 0) : btwK len next tx F k = btwK len next (tx ++ [F[k].1]) F (k + 1) := by
  unfold btwK
  rw [if_pos (by omega), if_pos (by omega), List.drop_eq_getElem_cons h, btw, if_pos hc]
theorem btwK_pos {len next : Int} {tx : List Int} {F : List (Int × Int)} {k : Nat} (h : k < F.length) (hc : ¬ F[k].2 < 0) : btwK len next tx F k = chgIf next F[k].2 tx ++ btwK len (F[k].2 + 1) [] F (k + 1) := by
  unfold btwK
  rw [if_pos (by omega), if_pos (by omega), List.drop_eq_getElem_cons h, btw, if_neg hc]
theorem btwK_end {len next : Int} {tx : List Int} {F : List (Int × Int)} {k : Nat} (h : k = F.length) : btwK len next tx F k = chgIf next len tx ++ btwK len (len + 1) [] F (k + 1) := by
  unfold btwK
  rw [if_pos (by omega), if_neg (by omega), List.drop_of_length_le (by omega), btw, List.append_nil]

structure BtR (w wr : World) (len : Int) (F : List (Int × Int)) (RES : List PC) (ov : Value) (k : Nat) (next : Int) (s : ByteArray) (tx : List Int) (done : List PC) : Prop where
  own : OwnG PS.vals 106 3 w wr ov (done.map PC.ps)
  str : s = strOfNums tx
  res : done ++ btwK len next tx F k = RES
  n0 : 0 ≤ next
  n1 : next ≤ 1152921504606846977
  cnt : done.length ≤ k
  tl : tx.length ≤ k

theorem BtR.ins {w wr w' : World} {len : Int} {F : List (Int × Int)} {RES : List PC} {ov : Value} {k : Nat} {next : Int} {s : ByteArray} {tx : List Int} {done : List PC} (h : BtR w wr len F RES ov k next s tx done) (hf : Fr0 wr w') (hk : k < F.length) (hc : F[k].2 < 0) : BtR w w' len F RES ov (k + 1) next (s ++ strOfNums [F[k].1]) (tx ++ [F[k].1]) done :=
  ⟨h.own.kept0 hf, by rw [h.str, str_app], by rw [← btwK_neg hk hc]; exact h.res, h.n0, h.n1, by have := h.cnt; omega, by rw [List.length_append]; have := h.tl; simp; omega⟩

theorem BtR.skip {w wr w' : World} {len : Int} {F : List (Int × Int)} {RES : List PC} {ov : Value} {k : Nat} {next f : Int} {s : ByteArray} {tx : List Int} {done : List PC} (h : BtR w wr len F RES ov k next s tx done) (hf : Fr0 wr w') (he : btwK len next tx F k = chgIf next f tx ++ btwK len (f + 1) [] F (k + 1)) (h1 : ¬ next < f) (h2 : s.toList = []) (h3 : 0 ≤ f) (h4 : f ≤ 1152921504606846976) : BtR w w' len F RES ov (k + 1) (f + 1) ByteArray.empty [] done := by
  have e2 : tx = [] := str_empty.1 (by rw [← h.str]; exact h2)
  refine ⟨h.own.kept0 hf, rfl, ?_, by omega, by omega, by have := h.cnt; omega, by simp⟩
  rw [← h.res, he, chgIf_no (fun h => h.elim h1 (fun h => h e2)), List.nil_append]

theorem BtR.put {w wr wx w' : World} {len : Int} {F : List (Int × Int)} {RES : List PC} {ov ov' : Value} {k : Nat} {next f : Int} {s : ByteArray} {tx : List Int} {done : List PC} (h : BtR w wr len F RES ov k next s tx done) (he : btwK len next tx F k = chgIf next f tx ++ btwK len (f + 1) [] F (k + 1)) (h1 : next < f ∨ ¬ s.toList = []) (h3 : 0 ≤ f) (h4 : f ≤ 1152921504606846976)
    (hx : Fr0 wr wx) (hO : w'.ownsRow w.heap.size 106 3 ov' (done.map PC.ps ++ [(⟨next, f - next, s⟩ : PS)]).length ((done.map PC.ps ++ [(⟨next, f - next, s⟩ : PS)]).flatMap PS.vals)) (hg : wx.grownBy w' ov.ownBlock) : BtR w w' len F RES ov' (k + 1) (f + 1) ByteArray.empty [] (done ++ [⟨next, f - next, tx⟩]) := by
  have e : (done ++ [(⟨next, f - next, tx⟩ : PC)]).map PC.ps = done.map PC.ps ++ [⟨next, f - next, s⟩] := by
    rw [List.map_append, h.str]; rfl
  have := h.own.grown hx hO hg
  rw [← e] at this
  refine ⟨this, rfl, ?_, by omega, by omega, by have := h.cnt; rw [List.length_append]; simp; omega, by simp⟩
  rw [← h.res, he, chgIf_yes (by
    rcases h1 with h1 | h1
    · exact .inl h1
    · exact .inr (fun e => h1 (by rw [h.str, str_empty]; exact e))), List.append_assoc]

set_option maxRecDepth 100000 in
set_option maxHeartbeats 4000000 in
theorem ref37_Between {B : Nat} {w : World} {a : Option Addr} {cap : Nat} {F : List (Int × Int)} (hA : RG clv 2 B w a F) (hl : F.length ≤ 100000) (len : Int) (hl0 : 0 ≤ len) (hl1 : len ≤ 1152921504606846976) (hF : ∀ c ∈ F, c.2 ≤ 1152921504606846976) {RES : List PC} (hRES : btw len 0 [] F = RES) :
    Calls Tryz.prog 39 #[.int .i64 len, .slice a F.length cap] w fun e w' => ∃ v, e = .returned v ∧ OwnG PS.vals 106 3 w w' v (RES.map PC.ps) := by
  have H0 : Hid (BtR w w len F RES (.slice none 0 0) 0 0 ByteArray.empty [] []) := ⟨OwnG.nil _ _ _ (Fr0.refl w), rfl, by unfold btwK; rw [if_pos (Nat.zero_le _), List.drop_zero]; exact hRES, by omega, by omega, Nat.le_refl _, Nat.le_refl _⟩
  have HA := Lib.hid hA
  have HF := Lib.hid hF
  clear hA hF hRES
  go_enter Tryz.func39, Tryz.ntmps39
  go_wp2_with fail
  go_loopw [5, 6, 7, 8] (fun ov nv tv i wr => ∃ (k : Nat) (next : Int) (s : ByteArray) (tx : List Int) (done : List PC), k ≤ F.length + 1 ∧ i = .int .i64 k ∧ nv = .int .i64 next ∧ tv = .string s ∧ BtR w wr len F RES ov k next s tx done) (fun _ _ _ i _ => F.length + 1 - (intOf i).toNat)
  case atStart => exact ⟨0, 0, _, [], [], Nat.zero_le _, rfl, rfl, rfl, H0.out⟩
  case round =>
    clear H0
    obtain ⟨k, next, s, tx, done, hk, rfl, rfl, rfl, hr⟩ := hrel
    have n0 := hr.n0
    have n1 := hr.n1
    by_cases hlt : k < F.length
    · have q0 : decide (k < F.length) = true := decide_eq_true hlt
      have q0' : decide (k ≤ F.length) = true := decide_eq_true (by omega)
      obtain ⟨b, off, rfl, lb, _, hc⟩ := (HA.out.kept0 hr.own.fr) k hlt
      have c0 := hc 0 _ rfl
      have c1 := hc 1 _ rfl
      rw [Nat.add_zero] at c0
      have hcu := HF.out _ (List.getElem_mem hlt)
      by_cases hneg : F[k].2 < 0
      · have hsz : ¬ 9223372036854775807 < s.size + (strOfNums [F[k].1]).size := by
          have e1 := hr.str
          have e2 := hr.tl
          rw [e1, str_len, str_len]
          simp
          omega
        have HN := Lib.hid (fun w' hf => hr.ins (w' := w') hf hlt hneg)
        clear hr hc HA HF
        generalize F[k] = c at *
        obtain ⟨x, f⟩ := c
        dsimp only at *
        have q1 : decide (f < 0) = true := decide_eq_true hneg
        have hcv := conv_one wr x
        go_wp2_with fail
        have HX := HN.out _ ((Fr0.refl wr).alloc (.cells #[.int .u8 x] 5 (0, 0)))
        go_roundw
        case rel => exact ⟨k + 1, next, _, _, done, by omega, by go_num, rfl, rfl, HX⟩
        case measure => simp [intOf]; omega
      · have he0 := btwK_pos (len := len) (next := next) (tx := tx) hlt hneg
        clear hc HA HF
        generalize F[k] = c at *
        obtain ⟨x, f⟩ := c
        dsimp only at *
        have q1 : decide (f < 0) = false := decide_eq_false hneg
        have he := he0
        by_cases hnf : next < f
        · have q2 : decide (next < f) = true := decide_eq_true hnf
          have hon : next < f ∨ ¬ s.toList = [] := .inl hnf
          clear hnf
          have hrow := hr.own.row
          have HR := Lib.hid hr
          have HE := Lib.hid he
          have HON := Lib.hid hon
          have hbs : w.heap.size ≤ wr.heap.size := Fr.size hr.own.fr
          have hxl : (done.map PC.ps).length ≤ 1000000 := by rw [List.length_map]; have := hr.cnt; omega
          clear hr he hon he0
          generalize hys : done.map PC.ps = ys at hrow hxl
          have HYS := Lib.hid hys
          clear hys
          go_wp2_with (at_builtin; refine wpList_pushG (vals := PS.vals) rt_ps rfl _ _ rfl w.heap.size _ ys rfl hrow hbs 106 ⟨next, f - next, s⟩ #[.int .i64 next, .int .i64 (f - next), .string s] rfl rfl (by simp [PS.vals, Value.oneCell']) 1 _ rfl rfl (by omega) hxl ?_; intro v' w4 hO4 hg4 hat4)
          rw [← HYS.out] at hO4
          have HX := HR.out.put HE.out HON.out (by omega) (by omega) ((Fr0.refl wr).alloc _) hO4 hg4
          go_roundw
          case rel => exact ⟨k + 1, f + 1, _, [], _, by omega, by go_num, rfl, rfl, HX⟩
          case measure => simp [intOf]; omega
        · have q2 : decide (next < f) = false := decide_eq_false hnf
          by_cases hse : s.toList = []
          · have q3 : s.toList.isEmpty = true := by rw [hse]; rfl
            have HX := Lib.hid (hr.skip (Fr0.refl wr) he hnf hse (by omega) (by omega))
            clear hr he hnf he0
            go_wp2_with fail
            go_roundw
            case rel => exact ⟨k + 1, f + 1, _, [], done, by omega, by go_num, rfl, rfl, HX.out⟩
            case measure => simp [intOf]; omega
          · have q3 : s.toList.isEmpty = false := tl_some hse
            have hon : next < f ∨ ¬ s.toList = [] := .inr hse
            clear hnf
            have hrow := hr.own.row
            have HR := Lib.hid hr
            have HE := Lib.hid he
            have HON := Lib.hid hon
            have hbs : w.heap.size ≤ wr.heap.size := Fr.size hr.own.fr
            have hxl : (done.map PC.ps).length ≤ 1000000 := by rw [List.length_map]; have := hr.cnt; omega
            clear hr he hon he0
            generalize hys : done.map PC.ps = ys at hrow hxl
            have HYS := Lib.hid hys
            clear hys
            go_wp2_with (at_builtin; refine wpList_pushG (vals := PS.vals) rt_ps rfl _ _ rfl w.heap.size _ ys rfl hrow hbs 106 ⟨next, f - next, s⟩ #[.int .i64 next, .int .i64 (f - next), .string s] rfl rfl (by simp [PS.vals, Value.oneCell']) 1 _ rfl rfl (by omega) hxl ?_; intro v' w4 hO4 hg4 hat4)
            rw [← HYS.out] at hO4
            have HX := HR.out.put HE.out HON.out (by omega) (by omega) ((Fr0.refl wr).alloc _) hO4 hg4
            go_roundw
            case rel => exact ⟨k + 1, f + 1, _, [], _, by omega, by go_num, rfl, rfl, HX⟩
            case measure => simp [intOf]; omega
    · have q0 : decide (k < F.length) = false := decide_eq_false hlt
      by_cases hke : k = F.length
      · have q0' : decide (k ≤ F.length) = true := decide_eq_true (by omega)
        have he0 := btwK_end (len := len) (next := next) (tx := tx) hke
        have hk3 : k ≤ F.length := by omega
        clear HA HF hke
        have he := he0
        by_cases hnf : next < len
        · have q2 : decide (next < len) = true := decide_eq_true hnf
          have hon : next < len ∨ ¬ s.toList = [] := .inl hnf
          clear hnf
          have hrow := hr.own.row
          have HR := Lib.hid hr
          have HE := Lib.hid he
          have HON := Lib.hid hon
          have hbs : w.heap.size ≤ wr.heap.size := Fr.size hr.own.fr
          have hxl : (done.map PC.ps).length ≤ 1000000 := by rw [List.length_map]; have := hr.cnt; omega
          clear hr he hon he0
          generalize hys : done.map PC.ps = ys at hrow hxl
          have HYS := Lib.hid hys
          clear hys
          go_wp2_with (at_builtin; refine wpList_pushG (vals := PS.vals) rt_ps rfl _ _ rfl w.heap.size _ ys rfl hrow hbs 106 ⟨next, len - next, s⟩ #[.int .i64 next, .int .i64 (len - next), .string s] rfl rfl (by simp [PS.vals, Value.oneCell']) 1 _ rfl rfl (by omega) hxl ?_; intro v' w4 hO4 hg4 hat4)
          rw [← HYS.out] at hO4
          have HX := HR.out.put HE.out HON.out (by omega) (by omega) ((Fr0.refl wr).alloc _) hO4 hg4
          go_roundw
          case rel => exact ⟨k + 1, len + 1, _, [], _, by omega, by go_num, rfl, rfl, HX⟩
          case measure => simp [intOf]; omega
        · have q2 : decide (next < len) = false := decide_eq_false hnf
          by_cases hse : s.toList = []
          · have q3 : s.toList.isEmpty = true := by rw [hse]; rfl
            have HX := Lib.hid (hr.skip (Fr0.refl wr) he hnf hse (by omega) (by omega))
            clear hr he hnf he0
            go_wp2_with fail
            go_roundw
            case rel => exact ⟨k + 1, len + 1, _, [], done, by omega, by go_num, rfl, rfl, HX.out⟩
            case measure => simp [intOf]; omega
          · have q3 : s.toList.isEmpty = false := tl_some hse
            have hon : next < len ∨ ¬ s.toList = [] := .inr hse
            clear hnf
            have hrow := hr.own.row
            have HR := Lib.hid hr
            have HE := Lib.hid he
            have HON := Lib.hid hon
            have hbs : w.heap.size ≤ wr.heap.size := Fr.size hr.own.fr
            have hxl : (done.map PC.ps).length ≤ 1000000 := by rw [List.length_map]; have := hr.cnt; omega
            clear hr he hon he0
            generalize hys : done.map PC.ps = ys at hrow hxl
            have HYS := Lib.hid hys
            clear hys
            go_wp2_with (at_builtin; refine wpList_pushG (vals := PS.vals) rt_ps rfl _ _ rfl w.heap.size _ ys rfl hrow hbs 106 ⟨next, len - next, s⟩ #[.int .i64 next, .int .i64 (len - next), .string s] rfl rfl (by simp [PS.vals, Value.oneCell']) 1 _ rfl rfl (by omega) hxl ?_; intro v' w4 hO4 hg4 hat4)
            rw [← HYS.out] at hO4
            have HX := HR.out.put HE.out HON.out (by omega) (by omega) ((Fr0.refl wr).alloc _) hO4 hg4
            go_roundw
            case rel => exact ⟨k + 1, len + 1, _, [], _, by omega, by go_num, rfl, rfl, HX⟩
            case measure => simp [intOf]; omega
      · have q0' : decide (k ≤ F.length) = false := decide_eq_false (by omega)
        have hres := hr.res
        unfold btwK at hres
        rw [if_neg (by omega), List.append_nil] at hres
        have HX := Lib.hid hr.own
        rw [hres] at HX
        clear hr hres HA HF hke
        go_wp2_with fail
        go_ret
        exact ⟨_, rfl, HX.out⟩

theorem Mem.le {n nx : Int} {F : List (Int × Int)} (h : Mem n nx F) (hn : 0 ≤ n) : ∀ c ∈ F, c.2 ≤ n := by
  intro c hc
  by_cases h0 : c.2 < 0
  · omega
  · have hk : c.2 ∈ keptF F := List.mem_map.2 ⟨c, List.mem_filter.2 ⟨hc, decide_eq_true (by omega)⟩, rfl⟩
    have := (h.rng _ hk).2
    omega

theorem OwnG.read {α : Type} {vals : α → List Value} {T : TypeId} {size : Nat} {w0 w : World} {a : Option Addr} {n cap : Nat} {xs : List α} (h : OwnG vals T size w0 w (.slice a n cap) xs) (hv : ∀ x ∈ xs, (vals x).length = size) (B : Nat) (h1 : T ≠ 77) (h2 : T ≠ 129) : RG vals size B w a xs := by
  obtain ⟨a', cap', e, hr⟩ := rg_of_own (B := B) hv h.row h1 h2
  simp only [Value.slice.injEq] at e
  obtain ⟨rfl, _, _⟩ := e
  exact hr

end Go.Proofs.YtodmpcnpedpheaaGreatDoor

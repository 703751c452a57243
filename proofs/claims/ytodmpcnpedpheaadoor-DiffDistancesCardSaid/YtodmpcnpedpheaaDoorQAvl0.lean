/- Plain words: the text of an ID, and what a step that makes a text leaves. No program. -/
import Derived.Test.YtodmpcnpedpheaaDoorQSt8
set_option linter.unusedSimpArgs false
set_option linter.unusedVariables false
namespace Go.Proofs.YtodmpcnpedpheaaDoor
open Go.RowKit

/-- A text, so many times. -/
def reps (t : List Int) : Nat → List Int
  | 0 => []
  | k + 1 => t ++ reps t k

/-- The letters of an ID, with fuel. -/
def txtF (L : List Ent) : Nat → Int → List Int
  | 0, _ => []
  | f + 1, id =>
    if id = 0 then [] else
    if (entAt L id).rule.kind = 1 then [(entAt L id).rule.letter] else
    if (entAt L id).rule.kind = 2 then txtF L f (entAt L id).rule.left ++ txtF L f (entAt L id).rule.right else
    reps (txtF L f (entAt L id).rule.left) (entAt L id).rule.times.toNat

/-- The letters of an ID. -/
def txt (L : List Ent) (id : Int) : List Int := txtF L id.toNat id

theorem DOk.at {L : List Ent} (h : DOk L) (id : Int) (hk : isKnown L id) (h0 : id ≠ 0) :
    ((entAt L id).rule.kind = 1 ∧ entAt L id = letterEnt (entAt L id).rule.letter) ∨
    ((entAt L id).rule.kind = 2 ∧ (1 ≤ (entAt L id).rule.left ∧ (entAt L id).rule.left < id ∧ 1 ≤ (entAt L id).rule.right ∧ (entAt L id).rule.right < id) ∧ entAt L id = pairEnt L (entAt L id).rule.left (entAt L id).rule.right) ∨
    ((entAt L id).rule.kind = 3 ∧ (1 ≤ (entAt L id).rule.left ∧ (entAt L id).rule.left < id) ∧ entAt L id = powEnt L (entAt L id).rule.left (entAt L id).rule.times) := by
  obtain ⟨k, rfl⟩ : ∃ k : Nat, id = (k : Int) + 1 := ⟨(id - 1).toNat, by have := hk.1; omega⟩
  have hlt : k < L.length := by have := hk.2; omega
  rw [entAt_succ L k hlt]
  rcases h k hlt with g | ⟨g1, g2, g3⟩ | ⟨g1, g2, g3⟩
  · exact .inl g
  · exact .inr (.inl ⟨g1, ⟨g2.1, by omega, g2.2.2.1, by omega⟩, g3⟩)
  · exact .inr (.inr ⟨g1, ⟨g2.1, by omega⟩, g3⟩)

/-- Fuel beyond the ID does not matter. -/
theorem txtF_eq {L : List Ent} (h : DOk L) : ∀ (n f : Nat) (id : Int), isKnown L id → id.toNat ≤ n → id.toNat ≤ f → txtF L f id = txtF L id.toNat id := by
  intro n
  induction n with
  | zero =>
    intro f id hk h1 h2
    have h0 : id = 0 := by have := hk.1; omega
    subst h0
    cases f with
    | zero => rfl
    | succ f => simp [txtF]
  | succ n ih =>
    intro f id hk h1 h2
    by_cases h0 : id = 0
    · subst h0
      cases f with
      | zero => rfl
      | succ f => simp [txtF]
    · obtain ⟨g, hg⟩ : ∃ g : Nat, id.toNat = g + 1 := ⟨id.toNat - 1, by have := hk.1; omega⟩
      obtain ⟨f', rfl⟩ : ∃ f' : Nat, f = f' + 1 := ⟨f - 1, by omega⟩
      rw [hg]
      have key : ∀ x : Int, 1 ≤ x → x < id → txtF L f' x = txtF L g x := by
        intro x h3 h4
        have hkx : isKnown L x := ⟨by omega, by have := hk.2; omega⟩
        rw [ih f' x hkx (by omega) (by omega), ih g x hkx (by omega) (by omega)]
      simp only [txtF]
      rw [if_neg h0, if_neg h0]
      rcases h.at id hk h0 with ⟨k1, _⟩ | ⟨k1, k2, _⟩ | ⟨k1, k2, _⟩
      · rw [if_pos k1, if_pos k1]
      · rw [if_neg (by omega), if_pos k1, if_neg (by omega), if_pos k1, key _ k2.1 k2.2.1, key _ k2.2.2.1 k2.2.2.2]
      · rw [if_neg (by omega), if_neg (by omega), if_neg (by omega), if_neg (by omega), key _ k2.1 k2.2]

theorem txt_zero (L : List Ent) : txt L 0 = [] := rfl

/-- The text of a Pair. -/
theorem txt_pair {L : List Ent} (h : DOk L) {id : Int} (hk : isKnown L id) (h0 : id ≠ 0) (h2 : (entAt L id).rule.kind = 2) : txt L id = txt L (entAt L id).rule.left ++ txt L (entAt L id).rule.right := by
  obtain ⟨g, hg⟩ : ∃ g : Nat, id.toNat = g + 1 := ⟨id.toNat - 1, by have := hk.1; omega⟩
  rcases h.at id hk h0 with ⟨k1, _⟩ | ⟨k1, k2, _⟩ | ⟨k1, k2, _⟩
  · omega
  · unfold txt
    rw [hg]
    simp only [txtF]
    rw [if_neg h0, if_neg (by omega), if_pos k1]
    have hb := hk.2
    rw [txtF_eq h g g _ ⟨by omega, by omega⟩ (by omega) (by omega), txtF_eq h g g _ ⟨by omega, by omega⟩ (by omega) (by omega)]
  · omega

theorem txt_letter {L : List Ent} {id : Int} (hk : isKnown L id) (h0 : id ≠ 0) (h1 : (entAt L id).rule.kind = 1) : txt L id = [(entAt L id).rule.letter] := by
  obtain ⟨g, hg⟩ : ∃ g : Nat, id.toNat = g + 1 := ⟨id.toNat - 1, by have := hk.1; omega⟩
  unfold txt
  rw [hg]
  simp only [txtF]
  rw [if_neg h0, if_pos h1]

theorem txtF_append {L : List Ent} (h : DOk L) (M : List Ent) : ∀ (f : Nat) (id : Int), isKnown L id → txtF (L ++ M) f id = txtF L f id
  | 0, id, hk => rfl
  | f + 1, id, hk => by
    simp only [txtF]
    by_cases h0 : id = 0
    · rw [if_pos h0, if_pos h0]
    · rw [if_neg h0, if_neg h0, entAt_append L M id hk]
      have hb := hk.2
      rcases h.at id hk h0 with ⟨k1, _⟩ | ⟨k1, k2, _⟩ | ⟨k1, k2, _⟩
      · rw [if_pos k1, if_pos k1]
      · rw [if_neg (by omega), if_pos k1, if_neg (by omega), if_pos k1, txtF_append h M f _ ⟨by omega, by omega⟩, txtF_append h M f _ ⟨by omega, by omega⟩]
      · rw [if_neg (by omega), if_neg (by omega), if_neg (by omega), if_neg (by omega), txtF_append h M f _ ⟨by omega, by omega⟩]

theorem txt_append {L : List Ent} (h : DOk L) (M : List Ent) {id : Int} (hk : isKnown L id) : txt (L ++ M) id = txt L id := txtF_append h M _ id hk

/-- A balanced ID of a text. -/
structure Bal (L : List Ent) (id : Int) (t : List Int) (d : Int) : Prop where
  known : isKnown L id
  ne : id ≠ 0
  text : txt L id = t
  even : (entAt L id).even = true
  depth : (entAt L id).depth = d

theorem Bal.more {L : List Ent} (h : DOk L) {id : Int} {t : List Int} {d : Int} (hb : Bal L id t d) (M : List Ent) : Bal (L ++ M) id t d :=
  ⟨isKnown_append M hb.known, hb.ne, by rw [txt_append h M hb.known]; exact hb.text, by rw [entAt_append L M id hb.known]; exact hb.even, by rw [entAt_append L M id hb.known]; exact hb.depth⟩

/-- What a step leaves: at most n rules more. -/
structure Grows (L L' : List Ent) (n : Nat) : Prop where
  ext : ∃ M, L' = L ++ M
  len : L'.length ≤ L.length + n
  sok : SOk L'
  dok : DOk L'

theorem Grows.refl {L : List Ent} (h : SOk L) (d : DOk L) : Grows L L 0 := ⟨⟨[], by simp⟩, by omega, h, d⟩
theorem Grows.trans {A B C : List Ent} {m n k : Nat} (h : Grows A B m) (g : Grows B C n) (hk : m + n ≤ k) : Grows A C k := by
  obtain ⟨M, e⟩ := h.ext
  obtain ⟨N, f⟩ := g.ext
  exact ⟨⟨M ++ N, by rw [f, e]; simp⟩, by have := h.len; have := g.len; omega, g.sok, g.dok⟩
theorem Grows.bal {L L' : List Ent} {n : Nat} (h : Grows L L' n) (hd : DOk L) {id : Int} {t : List Int} {d : Int} (hb : Bal L id t d) : Bal L' id t d := by
  obtain ⟨M, e⟩ := h.ext
  rw [e]; exact hb.more hd M

theorem bal_len {L : List Ent} (hd : DOk L) (hs : SOk L) : ∀ (n : Nat) (id : Int), id.toNat ≤ n → isKnown L id → (entAt L id).even = true → ((txt L id).length : Int) = (entAt L id).wt.len := by
  intro n
  induction n with
  | zero =>
    intro id h1 hk he
    have h0 : id = 0 := by have := hk.1; omega
    subst h0
    rfl
  | succ n ih =>
    intro id h1 hk he
    by_cases h0 : id = 0
    · subst h0; rfl
    · have hb := hk.2
      rcases hd.at id hk h0 with ⟨k1, k2⟩ | ⟨k1, k2, k3⟩ | ⟨k1, k2, k3⟩
      · rw [txt_letter hk h0 k1, k2]
        show (1 : Int) = (Wt.letter _).len
        rw [letter_len]
      · rw [txt_pair hd hk h0 k1]
        rw [k3] at he
        simp only [pairEnt, Bool.and_eq_true] at he
        have il := ih (entAt L id).rule.left (by omega) ⟨by omega, by omega⟩ he.1.1.1
        have ir := ih (entAt L id).rule.right (by omega) ⟨by omega, by omega⟩ he.1.1.2
        have hw : (entAt L id).wt.len = (entAt L (entAt L id).rule.left).wt.len + (entAt L (entAt L id).rule.right).wt.len := by
          have := congrArg (fun e => e.wt.len) k3
          simpa [pairEnt, Wt.join] using this
        rw [List.length_append, hw]
        omega
      · rw [k3] at he
        cases he

/-- The parts of a balanced Pair. -/
theorem bal_parts {L : List Ent} (hd : DOk L) {id : Int} {t : List Int} {d : Int} (hb : Bal L id t d) (h1 : 1 ≤ d) : ∃ l r tl tr dl dr, (entAt L id).rule = ⟨2, 0, l, r, 0⟩ ∧ Bal L l tl dl ∧ Bal L r tr dr ∧ t = tl ++ tr ∧ d = 1 + max dl dr ∧ -1 ≤ dl - dr ∧ dl - dr ≤ 1 := by
  have hk := hb.known
  have hbk := hk.2
  rcases hd.at id hk hb.ne with ⟨k1, k2⟩ | ⟨k1, k2, k3⟩ | ⟨k1, k2, k3⟩
  · have := hb.depth
    rw [k2] at this
    have : (0 : Int) = d := this
    omega
  · have he := hb.even
    have hdep := hb.depth
    have hru := congrArg (fun e => e.rule) k3
    rw [k3] at he hdep
    simp only [pairEnt, Bool.and_eq_true, decide_eq_true_eq] at he hdep
    refine ⟨_, _, _, _, _, _, hru, ⟨⟨by omega, by omega⟩, by omega, rfl, he.1.1.1, rfl⟩, ⟨⟨by omega, by omega⟩, by omega, rfl, he.1.1.2, rfl⟩, ?_, hdep.symm, he.1.2, he.2⟩
    rw [← hb.text, txt_pair hd hk hb.ne k1]
  · have he := hb.even
    rw [k3] at he
    cases he

/-- A Pair of balanced texts whose depths differ by at most 1. -/
theorem bal_pair {L : List Ent} (hs : SOk L) (hd : DOk L) {a b : Int} {s t : List Int} {da db : Int} (ha : Bal L a s da) (hb : Bal L b t db) (h1 : -1 ≤ da - db) (h2 : da - db ≤ 1) (hl : (s.length : Int) + t.length ≤ 1152921504606846976) :
    Grows L (addL L (pairEnt L a b)) 1 ∧ Bal (addL L (pairEnt L a b)) (addI L (pairEnt L a b)) (s ++ t) (1 + max da db) := by
  have la := bal_len hd hs a.toNat a (Nat.le_refl _) ha.known ha.even
  have lb := bal_len hd hs b.toNat b (Nat.le_refl _) hb.known hb.even
  rw [ha.text] at la
  rw [hb.text] at lb
  have hd' := hd.pair a b ha.known hb.known ha.ne hb.ne
  have g : Grows L (addL L (pairEnt L a b)) 1 := ⟨addL_ext L _, (addL_len L _).2, hs.pair a b ha.known hb.known ha.ne hb.ne (by omega), hd'⟩
  have he := ent_pair hd a b
  have hk := addI_known L (pairEnt L a b)
  refine ⟨g, ⟨hk.1, hk.2, ?_, ?_, ?_⟩⟩
  · have k2 : (entAt (addL L (pairEnt L a b)) (addI L (pairEnt L a b))).rule.kind = 2 := by rw [he]; rfl
    rw [txt_pair hd' hk.1 hk.2 k2, he]
    show txt _ a ++ txt _ b = _
    rw [(g.bal hd ha).text, (g.bal hd hb).text]
  · rw [he]
    show ((entAt L a).even && (entAt L b).even && decide (-1 ≤ (entAt L a).depth - (entAt L b).depth) && decide ((entAt L a).depth - (entAt L b).depth ≤ 1)) = true
    rw [ha.even, hb.even, ha.depth, hb.depth]
    simp [h1, h2]
  · rw [he]
    show 1 + max (entAt L a).depth (entAt L b).depth = _
    rw [ha.depth, hb.depth]

end Go.Proofs.YtodmpcnpedpheaaDoor

/- The walks of Store.Rule and of package avl. -/
set_option linter.unusedSimpArgs false
set_option linter.unusedVariables false
namespace Go.Proofs.YtodmpcnpedpheaaDoor
open Go.RowKit

set_option maxRecDepth 100000 in
set_option maxHeartbeats 400000 in
theorem st_Rule_cell (p lb n cap k : Nat) (id : Int) (x : Ent) (w : World) (hid : id = (k : Int) + 1) (hk : k < n) (hn : n ≤ 1048576)
    (hK : ∀ W, Fr0 w W → Calls Tryd.prog 41 #[.pointer (some ⟨p, 0, none⟩), .int .i64 id] W fun e w' => e = .returned (.bool true) ∧ W = w')
    (hp : w.cell? ⟨p, 1, none⟩ = some (.slice (some ⟨lb, 0, none⟩) n cap))
    (h0 : w.cell? ⟨lb, k * 13, none⟩ = some (.int .i64 x.rule.kind))
    (h1 : w.cell? ⟨lb, k * 13 + 1, none⟩ = some (.int .u8 x.rule.letter))
    (h2 : w.cell? ⟨lb, k * 13 + 2, none⟩ = some (.int .i64 x.rule.left))
    (h3 : w.cell? ⟨lb, k * 13 + 3, none⟩ = some (.int .i64 x.rule.right))
    (h4 : w.cell? ⟨lb, k * 13 + 4, none⟩ = some (.int .i64 x.rule.times)) :
    Calls Tryd.prog 67 #[.pointer (some ⟨p, 0, none⟩), .int .i64 id] w fun e w' => e = .returned (.tuple #[.agg #[.int .i64 x.rule.kind, .int .u8 x.rule.letter, .int .i64 x.rule.left, .int .i64 x.rule.right, .int .i64 x.rule.times], .nilIface]) ∧ Fr0 w w' := by
  subst hid
  have lp := World.block_lt_of_cell? w _ hp
  have ll := World.block_lt_of_cell? w _ h0
  have CK := Lib.hid hK
  have hz : (((k : Int) + 1) == 0) = false := by simp; omega
  clear hK
  go_enter Tryd.func67, Tryd.ntmps67
  go_wp2_with fail
  refine (CK.out _ ((Fr0.refl w).alloc _)).mono ?_
  rintro e w' ⟨rfl, rfl⟩
  go_wp2_with fail
  exact bodyPost_ret (v := .tuple #[.agg #[.int .i64 x.rule.kind, .int .u8 x.rule.letter, .int .i64 x.rule.left, .int .i64 x.rule.right, .int .i64 x.rule.times], .nilIface]) (by simp [results, Tryd.results67, go_sem]) rfl
    ⟨rfl, by (repeat' (first | (with_reducible exact Fr0.refl _) | (with_reducible refine Fr0.setCell ?_ _ _ ?_) | (with_reducible refine Fr0.alloc ?_ _) | (with_reducible refine Fr0.drew ?_))) <;> first | omega | (dsimp only; omega) | (simp; done) | (simp; omega)⟩

theorem st_Rule {w : World} {p mb : Nat} {most : Int} {sv : Value} {L : List Ent} (hS : St w p mb most sv L) (id : Int) (h : isKnown L id) (h0 : id ≠ 0) :
    Calls Tryd.prog 67 #[.pointer (some ⟨p, 0, none⟩), .int .i64 id] w fun e w' => e = .returned (.tuple #[.agg #[.int .i64 (entAt L id).rule.kind, .int .u8 (entAt L id).rule.letter, .int .i64 (entAt L id).rule.left, .int .i64 (entAt L id).rule.right, .int .i64 (entAt L id).rule.times], .nilIface]) ∧ Fr0 w w' := by
  have hK := fun W (hW : Fr0 w W) => st_known_yes (hS.kept0 hW) id h
  obtain ⟨h1, h2⟩ := h
  obtain ⟨k, hk⟩ : ∃ k : Nat, id = (k : Int) + 1 := ⟨(id - 1).toNat, by omega⟩
  subst hk
  have hlt : k < L.length := by omega
  obtain ⟨lb, cap, rfl, hc⟩ := owned_ent hS (List.getElem?_eq_getElem hlt)
  rw [entAt_succ L k hlt]
  exact st_Rule_cell p lb L.length cap k _ L[k] w rfl hlt hS.big hK (cells3 hS.ptr).2.1 (hc 0 _ rfl) (hc 1 _ rfl) (hc 2 _ rfl) (hc 3 _ rfl) (hc 4 _ rfl)

/-- What was there is as it was, but for the blocks of the store p (its map is mb; all its blocks lie from B on). -/
structure Kp (B mb : Nat) (w w' : World) : Prop where
  os : w'.os = w.os
  tape : w'.tape = w.tape
  output : w'.output = w.output
  size : w.heap.size ≤ w'.heap.size
  low : ∀ k : Nat, k < B → k < w.heap.size → w'.heap[k]? = w.heap[k]?
  cells : ∀ (k : Nat) (cs : Array Value) (t : TypeId) (f : Nat × Nat), w.heap[k]? = some (Obj.cells cs t f) → t ≠ 57 → t ≠ 114 → w'.heap[k]? = some (.cells cs t f)
  maps : ∀ (k : Nat) (es : Array MapEntry) (n : Nat), w.heap[k]? = some (Obj.map es n) → k ≠ mb → w'.heap[k]? = some (.map es n)

theorem Kp.refl (B mb : Nat) (w : World) : Kp B mb w w := ⟨rfl, rfl, rfl, Nat.le_refl _, fun _ _ _ => rfl, fun _ _ _ _ h _ _ => h, fun _ _ _ h _ => h⟩
theorem Kp.trans {B mb : Nat} {a b c : World} (h : Kp B mb a b) (k : Kp B mb b c) : Kp B mb a c :=
  ⟨k.os.trans h.os, k.tape.trans h.tape, k.output.trans h.output, Nat.le_trans h.size k.size,
    fun i h1 h2 => (k.low i h1 (Nat.lt_of_lt_of_le h2 h.size)).trans (h.low i h1 h2),
    fun i cs t f h1 h2 h3 => k.cells i cs t f (h.cells i cs t f h1 h2 h3) h2 h3, fun i es n h1 h2 => k.maps i es n (h.maps i es n h1 h2) h2⟩
theorem Kp.of0 {B mb : Nat} {w w' : World} (h : Fr0 w w') : Kp B mb w w' :=
  ⟨h.os, h.tape, h.output, h.size, fun i _ h2 => h.block i h2 id, fun _ _ _ _ h1 _ _ => h.kept h1, fun _ _ _ h1 _ => h.kept h1⟩
theorem Kp.below {B mb : Nat} {w w' : World} (h : Kp B mb w w') (hB : B ≤ w.heap.size) : Below B w w' :=
  ⟨h.os, h.tape, h.output, h.size, fun k hk => h.low k hk (by omega)⟩
theorem Kp.owns {B mb : Nat} {w w' : World} (h : Kp B mb w w') {base : Nat} {e : TypeId} {size n : Nat} {v : Value} {xs : List Value}
    (ho : w.ownsRow base e size v n xs) (h1 : e ≠ 57) (h2 : e ≠ 114) : w'.ownsRow base e size v n xs := by
  refine ⟨ho.1, ?_⟩
  rcases ho.2 with h3 | ⟨g, cap, cur, h3, hb, hg, r⟩
  · exact .inl h3
  · exact .inr ⟨g, cap, cur, h3, hb, h.cells _ _ _ _ hg h1 h2, r⟩

/-- A store whose blocks lie from B on. -/
def Sto (B : Nat) (w : World) (p mb : Nat) (most : Int) (L : List Ent) : Prop := ∃ sv, St w p mb most sv L ∧ B ≤ p ∧ B ≤ mb ∧ ∀ k, sv.ownBlock = some k → B ≤ k

theorem Sto.kept0 {B : Nat} {w w' : World} {p mb : Nat} {most : Int} {L : List Ent} (h : Sto B w p mb most L) (hf : Fr0 w w') : Sto B w' p mb most L := by
  obtain ⟨sv, h1, h2⟩ := h
  exact ⟨sv, h1.kept0 hf, h2⟩

theorem Sto.step {B : Nat} {w w' : World} {p mb : Nat} {most : Int} {sv : Value} {L L' : List Ent} (hS : St w p mb most sv L) (h1 : B ≤ p) (h2 : B ≤ mb) (h3 : ∀ k, sv.ownBlock = some k → B ≤ k) (hB : B ≤ w.heap.size) (h : Stepped w w' p mb most sv L') :
    Sto B w' p mb most L' ∧ Kp B mb w w' := by
  have hb := @Stepped.block w w' p mb most sv L L' hS h
  obtain ⟨sv', hS', hf, hv⟩ := h
  refine ⟨⟨sv', hS', h1, h2, fun k hk => (hv k hk).elim (h3 k) (fun h => by omega)⟩, ⟨hf.os, hf.tape, hf.output, hf.size, fun k hk hlt => hf.block k hlt ?_, fun k cs t f e n1 n2 => hb e n1 n2, fun k es n e ne => hf.kept e ?_⟩⟩
  · rintro (e | e | e)
    · omega
    · omega
    · have := h3 k e; omega
  · rintro (e' | e' | e')
    · rw [e', hS.ptr] at e; simp at e
    · exact ne e'
    · rcases hS.own.2 with ⟨e1, _⟩ | ⟨g, cap, cur, e1, _, hg, _⟩
      · rw [e1] at e'; simp [Value.ownBlock] at e'
      · rw [e1] at e'
        simp [Value.ownBlock] at e'
        subst e'
        rw [hg] at e; simp at e

/-- A store with room for n rules more. -/
structure Room (B : Nat) (w : World) (p mb : Nat) (most : Int) (L : List Ent) (n : Nat) : Prop where
  st : Sto B w p mb most L
  base : B ≤ w.heap.size
  sok : SOk L
  dok : DOk L
  most : ((L.length + n : Nat) : Int) ≤ most
  big : L.length + n ≤ 1048576

theorem Room.kept0 {B : Nat} {w w' : World} {p mb : Nat} {most : Int} {L : List Ent} {n : Nat} (h : Room B w p mb most L n) (hf : Fr0 w w') : Room B w' p mb most L n := ⟨h.st.kept0 hf, Nat.le_trans h.base hf.size, h.sok, h.dok, h.most, h.big⟩
theorem Room.less {B : Nat} {w : World} {p mb : Nat} {most : Int} {L : List Ent} {n m : Nat} (h : Room B w p mb most L n) (hm : m ≤ n) : Room B w p mb most L m := ⟨h.st, h.base, h.sok, h.dok, by have := h.most; omega, by have := h.big; omega⟩
theorem Room.next {B : Nat} {w w' : World} {p mb : Nat} {most : Int} {L L' : List Ent} {n m k : Nat} (h : Room B w p mb most L n) (hS : Sto B w' p mb most L') (hK : Kp B mb w w') (hg : Grows L L' m) (hk : m + k ≤ n) : Room B w' p mb most L' k :=
  ⟨hS, Nat.le_trans h.base hK.size, hg.sok, hg.dok, by have := h.most; have := hg.len; omega, by have := h.big; have := hg.len; omega⟩

theorem Grows.le {A B : List Ent} {m n : Nat} (h : Grows A B m) (hk : m ≤ n) : Grows A B n := ⟨h.ext, by have := h.len; omega, h.sok, h.dok⟩

theorem sto_Weight {B : Nat} {w : World} {p mb : Nat} {most : Int} {L : List Ent} (h : Sto B w p mb most L) (id : Int) (hk : isKnown L id) :
    Calls Tryd.prog 28 #[.pointer (some ⟨p, 0, none⟩), .int .i64 id] w fun e w' => e = .returned (.tuple #[.agg #[.int .i64 (entAt L id).wt.len, .int .i64 (entAt L id).wt.lines, .int .i64 (entAt L id).wt.head, .int .i64 (entAt L id).wt.tail, .int .u64 (entAt L id).wt.val, .int .u64 (entAt L id).wt.scale], .nilIface]) ∧ Fr0 w w' := by
  obtain ⟨sv, hS, _⟩ := h; exact st_Weight hS id hk
theorem sto_Rule {B : Nat} {w : World} {p mb : Nat} {most : Int} {L : List Ent} (h : Sto B w p mb most L) (id : Int) (hk : isKnown L id) (h0 : id ≠ 0) :
    Calls Tryd.prog 67 #[.pointer (some ⟨p, 0, none⟩), .int .i64 id] w fun e w' => e = .returned (.tuple #[.agg #[.int .i64 (entAt L id).rule.kind, .int .u8 (entAt L id).rule.letter, .int .i64 (entAt L id).rule.left, .int .i64 (entAt L id).rule.right, .int .i64 (entAt L id).rule.times], .nilIface]) ∧ Fr0 w w' := by
  obtain ⟨sv, hS, _⟩ := h; exact st_Rule hS id hk h0

/-- A call that makes a balanced text; D: its depth and the number of new rules. -/
def APost (B : Nat) (w : World) (p mb : Nat) (most : Int) (L : List Ent) (t : List Int) (D : Int → Nat → Prop) (e : Ending) (w' : World) : Prop :=
  ∃ L' id d k, e = .returned (.tuple #[.int .i64 id, .nilIface]) ∧ Sto B w' p mb most L' ∧ Kp B mb w w' ∧ Grows L L' k ∧ Bal L' id t d ∧ D d k

theorem APost.ret {B : Nat} {w : World} {p mb : Nat} {most : Int} {L : List Ent} {t : List Int} {D : Int → Nat → Prop} {e : Ending} {w' : World} (h : APost B w p mb most L t D e w') : ∃ id, e = .returned (.tuple #[.int .i64 id, .nilIface]) := by
  obtain ⟨L', id, d, k, h1, _⟩ := h
  exact ⟨id, h1⟩
theorem APost.mono {B : Nat} {w : World} {p mb : Nat} {most : Int} {L : List Ent} {t u : List Int} {D E : Int → Nat → Prop} {e : Ending} {w' : World} (h : APost B w p mb most L t D e w') (ht : t = u) (hD : ∀ d k, D d k → E d k) : APost B w p mb most L u E e w' := by
  obtain ⟨L', id, d, k, h1, h2, h3, h4, h5, h6⟩ := h
  subst ht
  exact ⟨L', id, d, k, h1, h2, h3, h4, h5, hD d k h6⟩
theorem APost.before {B : Nat} {w w1 : World} {p mb : Nat} {most : Int} {L : List Ent} {t : List Int} {D : Int → Nat → Prop} {e : Ending} {w' : World} (h0 : Fr0 w w1) (h : APost B w1 p mb most L t D e w') : APost B w p mb most L t D e w' := by
  obtain ⟨L', id, d, k, h1, h2, h3, h4, h5, h6⟩ := h
  exact ⟨L', id, d, k, h1, h2, (Kp.of0 h0).trans h3, h4, h5, h6⟩
/-- Behind a call that made rules. -/
theorem APost.next {B : Nat} {w w1 : World} {p mb : Nat} {most : Int} {L L1 : List Ent} {k1 : Nat} {t : List Int} {D E : Int → Nat → Prop} {e : Ending} {w' : World} (hK : Kp B mb w w1) (hg : Grows L L1 k1) (h : APost B w1 p mb most L1 t D e w') (hD : ∀ d k, D d k → E d (k1 + k)) : APost B w p mb most L t E e w' := by
  obtain ⟨L', id, d, k, h1, h2, h3, h4, h5, h6⟩ := h
  exact ⟨L', id, d, k1 + k, h1, h2, hK.trans h3, hg.trans h4 (Nat.le_refl _), h5, hD d k h6⟩

theorem avl_pair {B : Nat} {w : World} {p mb : Nat} {most : Int} {L : List Ent} (hR : Room B w p mb most L 1) {a b : Int} {s t : List Int} {da db : Int} (ha : Bal L a s da) (hb : Bal L b t db) (h1 : -1 ≤ da - db) (h2 : da - db ≤ 1) (hl : (s.length : Int) + t.length ≤ 1152921504606846976) :
    Calls Tryd.prog 38 #[.pointer (some ⟨p, 0, none⟩), .int .i64 a, .int .i64 b] w (APost B w p mb most L (s ++ t) (fun d k => d = 1 + max da db ∧ k ≤ 1)) := by
  have la := bal_len hR.dok hR.sok a.toNat a (Nat.le_refl _) ha.known ha.even
  have lb := bal_len hR.dok hR.sok b.toNat b (Nat.le_refl _) hb.known hb.even
  rw [ha.text] at la
  rw [hb.text] at lb
  have hm := hR.most
  have hbg := hR.big
  obtain ⟨sv, hS, q1, q2, q3⟩ := hR.st
  refine (st_Pair hS hR.sok a b ha.known hb.known ha.ne hb.ne (by omega) (by omega) (by omega)).mono ?_
  rintro e w' ⟨rfl, hst⟩
  obtain ⟨g, bb⟩ := bal_pair hR.sok hR.dok ha hb h1 h2 hl
  obtain ⟨r1, r2⟩ := Sto.step hS q1 q2 q3 hR.base hst
  exact ⟨_, _, _, 1, rfl, r1, r2, g, bb, rfl, Nat.le_refl _⟩

end Go.Proofs.YtodmpcnpedpheaaDoor

/- The keys of a store's rules (plain): which rules are signature rules, what a row of the table may hold; letters are unique. -/
set_option linter.unusedSimpArgs false
set_option linter.unusedVariables false
namespace Go.Proofs.YtodmpcnpedpheaaDoor
open Go.RowKit

/-- A row of the table of keys. -/
structure KRow where
  key : Int
  lev : Int
  kn : Bool
deriving DecidableEq, Inhabited

def KRow.vals (r : KRow) : List Value := [.int .u64 r.key, .int .i64 r.lev, .bool r.kn]

/-- The key of a rule, mixed. -/
def mixI (k x y : Int) : Int := ((k + (1234567890123456789 * x % PP + 987654321987654321 * y % PP) % PP) % PP) ^ 17 % PP

theorem mixI_rng (k x y : Int) : 0 ≤ mixI k x y ∧ mixI k x y < 2305843009213693951 := pp_lt _

/-- Do two keys fit a number of a pair level? -/
def fitB (c : Nat) (x y : Int) : Bool := if c = 122 then x == y else (x.toNat.testBit (c / 2) == (c % 2 == 1)) && (y.toNat.testBit (c / 2) == (c % 2 == 0))

/-- The least number, from c on, that two keys fit. -/
def fitN (x y : Int) : Nat → Nat → Option Nat
  | 0, _ => none
  | f + 1, c => if fitB c x y then some c else fitN x y f (c + 1)

/-- The least pair level above low that two keys fit; 0 if there is none. -/
def aftI (low x y : Int) : Int :=
  match fitN x y (123 - (low / 2).toNat % 123) ((low / 2).toNat % 123) with
  | some n => 2 * (low / 2 + 1 + n - ((low / 2).toNat % 123 : Nat))
  | none => match fitN x y 123 0 with
    | some n => 2 * (low / 2 + 1 + n - ((low / 2).toNat % 123 : Nat) + 123)
    | none => 0

/-- The key and the level of a rule. -/
def klF : Nat → List Ent → Int → Int × Int
  | 0, _, _ => (0, -1)
  | k + 1, L, id =>
    if (entAt L id).rule.kind = 1 then (mixI 1 (entAt L id).rule.letter 0, 0)
    else if (entAt L id).rule.kind = 2 then
      (mixI 2 (klF k L (entAt L id).rule.left).1 (klF k L (entAt L id).rule.right).1,
        if (entAt L id).rule.left ≠ (entAt L id).rule.right ∧ 0 ≤ (klF k L (entAt L id).rule.left).2 ∧ 0 ≤ (klF k L (entAt L id).rule.right).2 then
          aftI (max (klF k L (entAt L id).rule.left).2 (klF k L (entAt L id).rule.right).2) (klF k L (entAt L id).rule.left).1 (klF k L (entAt L id).rule.right).1 else -1)
    else (mixI 3 (klF k L (entAt L id).rule.left).1 (entAt L id).rule.times,
      if 0 ≤ (klF k L (entAt L id).rule.left).2 ∧ (klF k L (entAt L id).rule.left).2 % 2 = 0 then (klF k L (entAt L id).rule.left).2 + 1 else -1)

def klev (L : List Ent) (id : Int) : Int := (klF id.toNat L id).2
def kkey (L : List Ent) (id : Int) : Int := (klF id.toNat L id).1

/-- What a row that is known holds. -/
def rowOk (L : List Ent) (id : Int) (r : KRow) : Prop := r.key = kkey L id ∧ r.lev = klev L id

def TabOk (L : List Ent) (T : List KRow) : Prop := ∀ (i : Nat) (h : i < T.length), (T[i].kn = true → 1 ≤ i ∧ i ≤ L.length ∧ rowOk L i T[i]) ∧ (T[i].kn = false → T[i] = ⟨0, 0, false⟩)

/-- With enough fuel it does not matter. -/
theorem klF_fuel {L : List Ent} (hD : DOk L) : ∀ (k : Nat) (id : Int), isKnown L id → id ≠ 0 → id.toNat ≤ k → klF k L id = klF id.toNat L id := by
  intro k
  induction k using Nat.strongRecOn with
  | _ k ih =>
    intro id hk h0 hle
    have h1 := hk.1
    have hpos : 1 ≤ id.toNat := by omega
    obtain ⟨m, hm⟩ : ∃ m, k = m + 1 := ⟨k - 1, by omega⟩
    obtain ⟨n, hn⟩ : ∃ n, id.toNat = n + 1 := ⟨id.toNat - 1, by omega⟩
    subst hm
    rw [hn]
    have ch : ∀ c : Int, 1 ≤ c → c < id → klF m L c = klF n L c := by
      intro c c1 c2
      have hc : isKnown L c := ⟨by omega, by have := hk.2; omega⟩
      rw [ih m (by omega) c hc (by omega) (by omega), ih n (by omega) c hc (by omega) (by omega)]
    unfold klF
    rcases hD.at id hk h0 with ⟨g1, _⟩ | ⟨g1, g2, _⟩ | ⟨g1, g2, _⟩
    · rw [if_pos g1, if_pos g1]
    · rw [ch _ g2.1 g2.2.1, ch _ g2.2.2.1 g2.2.2.2]
    · have n1 : ¬ (entAt L id).rule.kind = 1 := by rw [g1]; decide
      have n2 : ¬ (entAt L id).rule.kind = 2 := by rw [g1]; decide
      rw [if_neg n1, if_neg n2, if_neg n1, if_neg n2, ch _ g2.1 g2.2]

/-- The key and the level of a letter, a pair, a power. -/
theorem kl_letter {L : List Ent} {id : Int} (h0 : 1 ≤ id) (h : (entAt L id).rule.kind = 1) : kkey L id = mixI 1 (entAt L id).rule.letter 0 ∧ klev L id = 0 := by
  unfold kkey klev
  obtain ⟨n, hn⟩ : ∃ n, id.toNat = n + 1 := ⟨id.toNat - 1, by omega⟩
  rw [hn]; unfold klF; rw [if_pos h]; exact ⟨rfl, rfl⟩

theorem kl_pair {L : List Ent} (hD : DOk L) {id : Int} (hk : isKnown L id) (h0 : id ≠ 0) (h : (entAt L id).rule.kind = 2) :
    kkey L id = mixI 2 (kkey L (entAt L id).rule.left) (kkey L (entAt L id).rule.right) ∧
    klev L id = if (entAt L id).rule.left ≠ (entAt L id).rule.right ∧ 0 ≤ klev L (entAt L id).rule.left ∧ 0 ≤ klev L (entAt L id).rule.right then
      aftI (max (klev L (entAt L id).rule.left) (klev L (entAt L id).rule.right)) (kkey L (entAt L id).rule.left) (kkey L (entAt L id).rule.right) else -1 := by
  have h1 := hk.1
  have h2 := hk.2
  rcases hD.at id hk h0 with ⟨g1, _⟩ | ⟨_, g2, _⟩ | ⟨g1, _⟩
  · rw [h] at g1; exact absurd g1 (by decide)
  · obtain ⟨n, hn⟩ : ∃ n, id.toNat = n + 1 := ⟨id.toNat - 1, by omega⟩
    have ea := klF_fuel hD n (entAt L id).rule.left ⟨by omega, by omega⟩ (by omega) (by omega)
    have eb := klF_fuel hD n (entAt L id).rule.right ⟨by omega, by omega⟩ (by omega) (by omega)
    have hw : klF id.toNat L id = (mixI 2 (kkey L (entAt L id).rule.left) (kkey L (entAt L id).rule.right), if (entAt L id).rule.left ≠ (entAt L id).rule.right ∧ 0 ≤ klev L (entAt L id).rule.left ∧ 0 ≤ klev L (entAt L id).rule.right then
        aftI (max (klev L (entAt L id).rule.left) (klev L (entAt L id).rule.right)) (kkey L (entAt L id).rule.left) (kkey L (entAt L id).rule.right) else -1) := by
      rw [hn]
      show klF (n + 1) L id = _
      rw [klF, if_neg (by rw [h]; decide), if_pos h, ea, eb]
      rfl
    unfold kkey klev at *
    rw [hw]
    exact ⟨rfl, rfl⟩
  · rw [h] at g1; exact absurd g1 (by decide)

theorem kl_power {L : List Ent} (hD : DOk L) {id : Int} (hk : isKnown L id) (h0 : id ≠ 0) (h : (entAt L id).rule.kind = 3) :
    kkey L id = mixI 3 (kkey L (entAt L id).rule.left) (entAt L id).rule.times ∧
    klev L id = if 0 ≤ klev L (entAt L id).rule.left ∧ klev L (entAt L id).rule.left % 2 = 0 then klev L (entAt L id).rule.left + 1 else -1 := by
  have h1 := hk.1
  have h2 := hk.2
  rcases hD.at id hk h0 with ⟨g1, _⟩ | ⟨g1, _⟩ | ⟨_, g2, _⟩
  · rw [h] at g1; exact absurd g1 (by decide)
  · rw [h] at g1; exact absurd g1 (by decide)
  · obtain ⟨n, hn⟩ : ∃ n, id.toNat = n + 1 := ⟨id.toNat - 1, by omega⟩
    have ea := klF_fuel hD n (entAt L id).rule.left ⟨by omega, by omega⟩ (by omega) (by omega)
    have hw : klF id.toNat L id = (mixI 3 (kkey L (entAt L id).rule.left) (entAt L id).rule.times, if 0 ≤ klev L (entAt L id).rule.left ∧ klev L (entAt L id).rule.left % 2 = 0 then klev L (entAt L id).rule.left + 1 else -1) := by
      rw [hn]
      show klF (n + 1) L id = _
      rw [klF, if_neg (by rw [h]; decide), if_neg (by rw [h]; decide), ea]
      rfl
    unfold kkey klev at *
    rw [hw]
    exact ⟨rfl, rfl⟩

/-- More rules change nothing. -/
theorem kl_more {L : List Ent} (hD : DOk L) (M : List Ent) (hD' : DOk (L ++ M)) : ∀ (n : Nat) (id : Int), id.toNat ≤ n → isKnown L id → id ≠ 0 → kkey (L ++ M) id = kkey L id ∧ klev (L ++ M) id = klev L id := by
  intro n
  induction n with
  | zero => intro id h hk h0; have := hk.1; omega
  | succ n ih =>
    intro id h hk h0
    have h1 := hk.1
    have h2 := hk.2
    have e := entAt_append L M id hk
    have hk' : isKnown (L ++ M) id := ⟨hk.1, by rw [List.length_append]; omega⟩
    rcases hD.at id hk h0 with ⟨g1, _⟩ | ⟨g1, g2, _⟩ | ⟨g1, g2, _⟩
    · have a := kl_letter (L := L) (by omega) g1
      have b := kl_letter (L := L ++ M) (id := id) (by omega) (by rw [e]; exact g1)
      rw [a.1, a.2, b.1, b.2, e]; exact ⟨rfl, rfl⟩
    · have a := kl_pair hD hk h0 g1
      have b := kl_pair hD' hk' h0 (by rw [e]; exact g1)
      have i1 := ih _ (by omega) (⟨by omega, by omega⟩ : isKnown L (entAt L id).rule.left) (by omega)
      have i2 := ih _ (by omega) (⟨by omega, by omega⟩ : isKnown L (entAt L id).rule.right) (by omega)
      rw [a.1, a.2, b.1, b.2, e, i1.1, i1.2, i2.1, i2.2]; exact ⟨rfl, rfl⟩
    · have a := kl_power hD hk h0 g1
      have b := kl_power hD' hk' h0 (by rw [e]; exact g1)
      have i1 := ih _ (by omega) (⟨by omega, by omega⟩ : isKnown L (entAt L id).rule.left) (by omega)
      rw [a.1, a.2, b.1, b.2, e, i1.1, i1.2]; exact ⟨rfl, rfl⟩

/-- Keys are below the modulus. -/
theorem kkey_rng {L : List Ent} (hD : DOk L) {id : Int} (hk : isKnown L id) (h0 : id ≠ 0) : 0 ≤ kkey L id ∧ kkey L id < 2305843009213693951 := by
  have h1 := hk.1
  rcases hD.at id hk h0 with ⟨g1, _⟩ | ⟨g1, g2, _⟩ | ⟨g1, g2, _⟩
  · rw [(kl_letter (by omega) g1).1]; exact mixI_rng _ _ _
  · rw [(kl_pair hD hk h0 g1).1]; exact mixI_rng _ _ _
  · rw [(kl_power hD hk h0 g1).1]; exact mixI_rng _ _ _

theorem TabOk.more {L : List Ent} (hD : DOk L) {M : List Ent} (hD' : DOk (L ++ M)) {T : List KRow} (h : TabOk L T) : TabOk (L ++ M) T := by
  intro i hi
  refine ⟨fun hk => ?_, (h i hi).2⟩
  obtain ⟨h1, h2, h3, h4⟩ := (h i hi).1 hk
  have e := kl_more hD M hD' _ (i : Int) (Nat.le_refl _) ⟨by omega, by omega⟩ (by omega)
  exact ⟨h1, by rw [List.length_append]; omega, h3.trans e.1.symm, h4.trans e.2.symm⟩

theorem TabOk.nil (L : List Ent) : TabOk L [] := fun i h => by simp at h

/-- No two rules of a store are one; a power has two copies or more. -/
structure Uq (L : List Ent) : Prop where
  one : ∀ a b : Int, isKnown L a → isKnown L b → a ≠ 0 → b ≠ 0 → (entAt L a).rule = (entAt L b).rule → a = b
  pow : ∀ a : Int, isKnown L a → a ≠ 0 → (entAt L a).rule.kind = 3 → 2 ≤ (entAt L a).rule.times
  ltr : ∀ a : Int, isKnown L a → a ≠ 0 → (entAt L a).rule.kind = 1 → 0 ≤ (entAt L a).rule.letter ∧ (entAt L a).rule.letter < 256

theorem Uq.nil : Uq [] := ⟨fun a b h1 _ h2 => by have := h1.1; have := h1.2; simp at this; omega, fun a h1 h2 => by have := h1.1; have := h1.2; simp at this; omega, fun a h1 h2 => by have := h1.1; have := h1.2; simp at this; omega⟩

theorem Uq.add {L : List Ent} (h : Uq L) (e : Ent) (he : e.rule.kind = 3 → 2 ≤ e.rule.times) (he1 : e.rule.kind = 1 → 0 ≤ e.rule.letter ∧ e.rule.letter < 256) : Uq (addL L e) := by
  cases hj : ruleIdx e.rule L with
  | some j => rw [addL_some hj]; exact h
  | none =>
    rw [addL_none hj]
    have hno : ∀ c : Int, isKnown L c → c ≠ 0 → (entAt L c).rule ≠ e.rule := by
      intro c hc c0 hr
      obtain ⟨k, rfl⟩ : ∃ k : Nat, c = (k : Int) + 1 := ⟨(c - 1).toNat, by have := hc.1; omega⟩
      have hlt : k < L.length := by have := hc.2; omega
      rw [entAt_succ L k hlt] at hr
      unfold ruleIdx at hj
      rw [List.findIdx?_eq_none_iff] at hj
      have := hj L[k] (List.getElem_mem hlt)
      simp [hr] at this
    have hlast : entAt (L ++ [e]) ((L.length : Int) + 1) = e := by
      rw [entAt_succ (L ++ [e]) L.length (by simp)]
      simp
    constructor
    · intro a b ha hb a0 b0 hr
      have ha1 := ha.1
      have ha2 := ha.2
      have hb1 := hb.1
      have hb2 := hb.2
      simp only [List.length_append, List.length_cons, List.length_nil] at ha2 hb2
      by_cases ca : a = (L.length : Int) + 1
      · by_cases cb : b = (L.length : Int) + 1
        · omega
        · exfalso
          have kb : isKnown L b := ⟨hb1, by omega⟩
          rw [ca, hlast, entAt_append L [e] b kb] at hr
          exact hno b kb b0 hr.symm
      · have ka : isKnown L a := ⟨ha1, by omega⟩
        by_cases cb : b = (L.length : Int) + 1
        · exfalso
          rw [cb, hlast, entAt_append L [e] a ka] at hr
          exact hno a ka a0 hr
        · have kb : isKnown L b := ⟨hb1, by omega⟩
          rw [entAt_append L [e] a ka, entAt_append L [e] b kb] at hr
          exact h.one a b ka kb a0 b0 hr
    · intro a ha a0 hk
      have ha1 := ha.1
      have ha2 := ha.2
      simp only [List.length_append, List.length_cons, List.length_nil] at ha2
      by_cases ca : a = (L.length : Int) + 1
      · rw [ca, hlast] at hk ⊢; exact he hk
      · have ka : isKnown L a := ⟨ha1, by omega⟩
        rw [entAt_append L [e] a ka] at hk ⊢
        exact h.pow a ka a0 hk
    · intro a ha a0 hk
      have ha1 := ha.1
      have ha2 := ha.2
      simp only [List.length_append, List.length_cons, List.length_nil] at ha2
      by_cases ca : a = (L.length : Int) + 1
      · rw [ca, hlast] at hk ⊢; exact he1 hk
      · have ka : isKnown L a := ⟨ha1, by omega⟩
        rw [entAt_append L [e] a ka] at hk ⊢
        exact h.ltr a ka a0 hk

theorem Uq.letter {L : List Ent} (h : Uq L) (b : Int) (h0 : 0 ≤ b) (h1 : b < 256) : Uq (addL L (letterEnt b)) := h.add _ (fun e => absurd (show (1 : Int) = 3 from e) (by decide)) (fun _ => ⟨h0, h1⟩)
theorem Uq.pair {L : List Ent} (h : Uq L) (x y : Int) : Uq (addL L (pairEnt L x y)) := h.add _ (fun e => absurd (show (2 : Int) = 3 from e) (by decide)) (fun e => absurd (show (2 : Int) = 1 from e) (by decide))
theorem Uq.pw {L : List Ent} (h : Uq L) (x k : Int) (hk : 2 ≤ k) : Uq (addL L (powEnt L x k)) := h.add _ (fun _ => hk) (fun e => absurd (show (3 : Int) = 1 from e) (by decide))

theorem Uq.text : ∀ (f : Nat) (L : List Ent) (bs : List Int), Uq L → (∀ b ∈ bs, 0 ≤ b ∧ b < 256) → Uq (textR f L bs).1
  | 0, L, bs, h, _ => h
  | f + 1, L, bs, h, hb => by
    unfold textR
    split
    · rename_i h1
      have hm : bs.getD 0 0 ∈ bs := by
        cases bs with
        | nil => simp at h1
        | cons b r => simp
      exact h.letter _ (hb _ hm).1 (hb _ hm).2
    · exact (Uq.text f _ _ (Uq.text f _ _ h (fun b hb' => hb b (List.mem_of_mem_take hb'))) (fun b hb' => hb b (List.mem_of_mem_drop hb'))).pair _ _

end Go.Proofs.YtodmpcnpedpheaaDoor

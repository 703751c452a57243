/- The walk of Pair, both cases. -/
import Derived.Test.YtodmpcnpedpheaaDoorQSt5
import Derived.Test.YtodmpcnpedpheaaDoorQModel2
set_option linter.unusedSimpArgs false
set_option linter.unusedVariables false
namespace Go.Proofs.YtodmpcnpedpheaaDoor
open Go.RowKit

theorem st_Pair {w : World} {p mb : Nat} {most : Int} {sv : Value} {L : List Ent} (hS : St w p mb most sv L) (hO : SOk L) (l r : Int) (hl : isKnown L l) (hr : isKnown L r) (l0 : l ≠ 0) (r0 : r ≠ 0)
    (hlen : (entAt L l).wt.len + (entAt L r).wt.len ≤ 1152921504606846976) (hm : (L.length : Int) < most) (hL : L.length < 1048576) :
    Calls Tryd.prog 38 #[.pointer (some ⟨p, 0, none⟩), .int .i64 l, .int .i64 r] w fun e w' => e = .returned (.tuple #[.int .i64 (addI L (pairEnt L l r)), .nilIface]) ∧ Stepped w w' p mb most sv (addL L (pairEnt L l r)) := by
  cases hj : ruleIdx (pairEnt L l r).rule L with
  | some j =>
    rw [addI_some hj, addL_some hj]
    exact (st_Pair_some hS hO l r hl hr l0 r0 hlen j hj).mono fun e w' ⟨h1, h2⟩ => ⟨h1, Stepped.same hS h2⟩
  | none =>
    rw [addI_none hj, addL_none hj]
    exact st_Pair_none hS hO l r hl hr l0 r0 hlen hj hm hL

end Go.Proofs.YtodmpcnpedpheaaDoor

/- Plain words: the rules of a text, by halves. No program. -/
set_option linter.unusedSimpArgs false
set_option linter.unusedVariables false
namespace Go.Proofs.YtodmpcnpedpheaaDoor
open Go.RowKit

/-- Every entry is what its rule says. -/
def DOk (L : List Ent) : Prop := ∀ (i : Nat) (h : i < L.length),
  (L[i].rule.kind = 1 ∧ L[i] = letterEnt L[i].rule.letter) ∨
  (L[i].rule.kind = 2 ∧ (1 ≤ L[i].rule.left ∧ L[i].rule.left ≤ i ∧ 1 ≤ L[i].rule.right ∧ L[i].rule.right ≤ i) ∧ L[i] = pairEnt L L[i].rule.left L[i].rule.right) ∨
  (L[i].rule.kind = 3 ∧ (1 ≤ L[i].rule.left ∧ L[i].rule.left ≤ i) ∧ L[i] = powEnt L L[i].rule.left L[i].rule.times)

theorem DOk.nil : DOk [] := fun i h => by simp at h

theorem pairEnt_append (L M : List Ent) (l r : Int) (hl : isKnown L l) (hr : isKnown L r) : pairEnt (L ++ M) l r = pairEnt L l r := by
  unfold pairEnt; rw [entAt_append L M l hl, entAt_append L M r hr]
theorem powEnt_append (L M : List Ent) (x k : Int) (hx : isKnown L x) : powEnt (L ++ M) x k = powEnt L x k := by
  unfold powEnt; rw [entAt_append L M x hx]

theorem DOk.push {L : List Ent} (h : DOk L) (e : Ent)
    (he : (e.rule.kind = 1 ∧ e = letterEnt e.rule.letter) ∨ (e.rule.kind = 2 ∧ (1 ≤ e.rule.left ∧ e.rule.left ≤ L.length ∧ 1 ≤ e.rule.right ∧ e.rule.right ≤ L.length) ∧ e = pairEnt L e.rule.left e.rule.right) ∨
      (e.rule.kind = 3 ∧ (1 ≤ e.rule.left ∧ e.rule.left ≤ L.length) ∧ e = powEnt L e.rule.left e.rule.times)) : DOk (L ++ [e]) := by
  intro i hi
  rcases Nat.lt_or_ge i L.length with hlt | hge
  · rw [List.getElem_append_left hlt]
    rcases h i hlt with h1 | ⟨h1, h2, h3⟩ | ⟨h1, h2, h3⟩
    · exact .inl h1
    · refine .inr (.inl ⟨h1, h2, ?_⟩)
      rw [pairEnt_append _ _ _ _ ⟨by omega, by omega⟩ ⟨by omega, by omega⟩]; exact h3
    · refine .inr (.inr ⟨h1, h2, ?_⟩)
      rw [powEnt_append _ _ _ _ ⟨by omega, by omega⟩]; exact h3
  · have : i = L.length := by simp at hi; omega
    subst this
    have hg : (L ++ [e])[L.length] = e := by rw [List.getElem_append_right (Nat.le_refl _)]; simp
    rw [hg]
    rcases he with h1 | ⟨h1, h2, h3⟩ | ⟨h1, h2, h3⟩
    · exact .inl h1
    · refine .inr (.inl ⟨h1, h2, ?_⟩)
      rw [pairEnt_append _ _ _ _ ⟨by omega, by omega⟩ ⟨by omega, by omega⟩]; exact h3
    · refine .inr (.inr ⟨h1, h2, ?_⟩)
      rw [powEnt_append _ _ _ _ ⟨by omega, by omega⟩]; exact h3

theorem DOk.letter {L : List Ent} (h : DOk L) (b : Int) : DOk (addL L (letterEnt b)) := by
  cases hj : ruleIdx (letterEnt b).rule L with
  | some j => rw [addL_some hj]; exact h
  | none => rw [addL_none hj]; exact h.push _ (.inl ⟨rfl, rfl⟩)

theorem DOk.pair {L : List Ent} (h : DOk L) (l r : Int) (hl : isKnown L l) (hr : isKnown L r) (l0 : l ≠ 0) (r0 : r ≠ 0) : DOk (addL L (pairEnt L l r)) := by
  cases hj : ruleIdx (pairEnt L l r).rule L with
  | some j => rw [addL_some hj]; exact h
  | none =>
    rw [addL_none hj]
    obtain ⟨a, b⟩ := hl
    obtain ⟨c, d⟩ := hr
    exact h.push _ (.inr (.inl ⟨rfl, ⟨by show 1 ≤ l; omega, b, by show 1 ≤ r; omega, d⟩, rfl⟩))

theorem DOk.pow {L : List Ent} (h : DOk L) (x k : Int) (hx : isKnown L x) (x0 : x ≠ 0) : DOk (addL L (powEnt L x k)) := by
  cases hj : ruleIdx (powEnt L x k).rule L with
  | some j => rw [addL_some hj]; exact h
  | none =>
    rw [addL_none hj]
    obtain ⟨a, b⟩ := hx
    exact h.push _ (.inr (.inr ⟨rfl, ⟨by show 1 ≤ x; omega, b⟩, rfl⟩))

theorem entAt_last (L : List Ent) (e : Ent) : entAt (L ++ [e]) ((L.length : Int) + 1) = e := by
  rw [entAt_succ _ _ (by simp), List.getElem_append_right (Nat.le_refl _)]; simp

theorem ent_letter {L : List Ent} (h : DOk L) (b : Int) : entAt (addL L (letterEnt b)) (addI L (letterEnt b)) = letterEnt b := by
  cases hj : ruleIdx (letterEnt b).rule L with
  | some j =>
    rw [addL_some hj, addI_some hj]
    obtain ⟨h1, h2⟩ := ruleIdx_lt hj
    rw [entAt_succ _ _ h1]
    rcases h j h1 with ⟨_, h3⟩ | ⟨h3, _⟩ | ⟨h3, _⟩
    · rw [h2] at h3; exact h3
    · rw [h2] at h3; simp [letterEnt] at h3
    · rw [h2] at h3; simp [letterEnt] at h3
  | none => rw [addL_none hj, addI_none hj, entAt_last]

theorem ent_pair {L : List Ent} (h : DOk L) (l r : Int) : entAt (addL L (pairEnt L l r)) (addI L (pairEnt L l r)) = pairEnt L l r := by
  cases hj : ruleIdx (pairEnt L l r).rule L with
  | some j =>
    rw [addL_some hj, addI_some hj]
    obtain ⟨h1, h2⟩ := ruleIdx_lt hj
    rw [entAt_succ _ _ h1]
    rcases h j h1 with ⟨h3, _⟩ | ⟨_, _, h3⟩ | ⟨h3, _⟩
    · rw [h2] at h3; simp [pairEnt] at h3
    · rw [h2] at h3; exact h3
    · rw [h2] at h3; simp [pairEnt] at h3
  | none => rw [addL_none hj, addI_none hj, entAt_last]

theorem ent_pow {L : List Ent} (h : DOk L) (x k : Int) : entAt (addL L (powEnt L x k)) (addI L (powEnt L x k)) = powEnt L x k := by
  cases hj : ruleIdx (powEnt L x k).rule L with
  | some j =>
    rw [addL_some hj, addI_some hj]
    obtain ⟨h1, h2⟩ := ruleIdx_lt hj
    rw [entAt_succ _ _ h1]
    rcases h j h1 with ⟨h3, _⟩ | ⟨h3, _⟩ | ⟨_, _, h3⟩
    · rw [h2] at h3; simp [powEnt] at h3
    · rw [h2] at h3; simp [powEnt] at h3
    · rw [h2] at h3; exact h3
  | none => rw [addL_none hj, addI_none hj, entAt_last]

/-- The depth of a text by halves. -/
def clog (n : Nat) : Nat := Nat.log2 (2 * n - 1)

theorem log2_half (n : Nat) (h : 2 ≤ n) : Nat.log2 n = Nat.log2 (n / 2) + 1 := by rw [Nat.log2_def, if_pos h]

theorem log2_mono {a b : Nat} (ha : a ≠ 0) (h : a ≤ b) : Nat.log2 a ≤ Nat.log2 b :=
  (Nat.le_log2 (by omega)).2 (Nat.le_trans ((Nat.le_log2 ha).1 (Nat.le_refl _)) h)

theorem clog_step (n : Nat) (h : 2 ≤ n) : clog n = 1 + max (clog (n / 2)) (clog (n - n / 2)) ∧ clog (n / 2) ≤ clog (n - n / 2) ∧ clog (n - n / 2) ≤ clog (n / 2) + 1 := by
  have h1 : clog (n / 2) ≤ clog (n - n / 2) := log2_mono (by omega) (by omega)
  have h2 : clog n = 1 + clog (n - n / 2) := by
    unfold clog
    rw [log2_half (2 * n - 1) (by omega), Nat.add_comm]
    congr 1
    rcases Nat.mod_two_eq_zero_or_one n with e | e
    · congr 1; omega
    · have e1 : (2 * n - 1) / 2 = n - 1 := by omega
      have e2 : 2 * (n - n / 2) - 1 = n := by omega
      rw [e1, e2, log2_half n (by omega), log2_half (n - 1) (by omega)]
      congr 2
      omega
  have h3 : clog (n - n / 2) ≤ clog (n / 2) + 1 := by
    unfold clog
    have : Nat.log2 (2 * (n / 2) - 1) + 1 = Nat.log2 (2 * (2 * (n / 2) - 1) + 1) := by
      rw [log2_half (2 * (2 * (n / 2) - 1) + 1) (by omega)]
      congr 2
      omega
    rw [this]
    exact log2_mono (by omega) (by omega)
  exact ⟨by omega, h1, h3⟩

/-- What comes of a text's letters: the rules after it, and its ID. -/
def textR : Nat → List Ent → List Int → List Ent × Int
  | 0, L, _ => (L, 0)
  | f + 1, L, bs =>
    if bs.length = 1 then (addL L (letterEnt (bs.getD 0 0)), addI L (letterEnt (bs.getD 0 0))) else
    (addL (textR f (textR f L (bs.take (bs.length / 2))).1 (bs.drop (bs.length / 2))).1 (pairEnt (textR f (textR f L (bs.take (bs.length / 2))).1 (bs.drop (bs.length / 2))).1 (textR f L (bs.take (bs.length / 2))).2 (textR f (textR f L (bs.take (bs.length / 2))).1 (bs.drop (bs.length / 2))).2),
     addI (textR f (textR f L (bs.take (bs.length / 2))).1 (bs.drop (bs.length / 2))).1 (pairEnt (textR f (textR f L (bs.take (bs.length / 2))).1 (bs.drop (bs.length / 2))).1 (textR f L (bs.take (bs.length / 2))).2 (textR f (textR f L (bs.take (bs.length / 2))).1 (bs.drop (bs.length / 2))).2))

structure TextOk (L L' : List Ent) (id : Int) (n : Nat) : Prop where
  ext : ∃ M, L' = L ++ M
  len : L'.length + 1 ≤ L.length + 2 * n
  sok : SOk L'
  dok : DOk L'
  known : isKnown L' id
  ne : id ≠ 0
  wlen : (entAt L' id).wt.len = n
  even : (entAt L' id).even = true
  depth : (entAt L' id).depth = clog n

theorem letter_len (b : Int) : (Wt.letter b).len = 1 := by unfold Wt.letter; split <;> rfl

theorem TextOk.one {L : List Ent} (h : SOk L) (d : DOk L) (b : Int) (h0 : 0 ≤ b) (h1 : b < 256) : TextOk L (addL L (letterEnt b)) (addI L (letterEnt b)) 1 where
  ext := addL_ext L _
  len := by have := (addL_len L (letterEnt b)).2; omega
  sok := h.letter b h0 h1
  dok := d.letter b
  known := (addI_known L _).1
  ne := (addI_known L _).2
  wlen := by rw [ent_letter d]; exact letter_len b
  even := by rw [ent_letter d]; rfl
  depth := by rw [ent_letter d]; rfl

theorem TextOk.two {L A B : List Ent} {a b : Int} {n : Nat} (hn : 2 ≤ n) (hm : n ≤ 65536) (ha : TextOk L A a (n / 2)) (hb : TextOk A B b (n - n / 2)) : TextOk L (addL B (pairEnt B a b)) (addI B (pairEnt B a b)) n := by
  obtain ⟨M1, e1⟩ := ha.ext
  obtain ⟨M2, e2⟩ := hb.ext
  have ka : isKnown B a := by rw [e2]; exact isKnown_append M2 ha.known
  have ea : entAt B a = entAt A a := by rw [e2]; exact entAt_append A M2 a ha.known
  obtain ⟨c1, c2, c3⟩ := clog_step n hn
  have w1 := ha.wlen
  have w2 := hb.wlen
  have hlen : (entAt B a).wt.len + (entAt B b).wt.len ≤ 1152921504606846976 := by rw [ea, w1, w2]; omega
  refine ⟨?_, ?_, hb.sok.pair a b ka hb.known ha.ne hb.ne hlen, hb.dok.pair a b ka hb.known ha.ne hb.ne, (addI_known _ _).1, (addI_known _ _).2, ?_, ?_, ?_⟩
  · obtain ⟨M3, e3⟩ := addL_ext B (pairEnt B a b)
    exact ⟨M1 ++ M2 ++ M3, by rw [e3, e2, e1]; simp⟩
  · have := (addL_len B (pairEnt B a b)).2
    have := ha.len
    have := hb.len
    omega
  · rw [ent_pair hb.dok]
    show (entAt B a).wt.len + (entAt B b).wt.len = _
    rw [ea, w1, w2]; omega
  · rw [ent_pair hb.dok]
    show ((entAt B a).even && (entAt B b).even && decide (-1 ≤ (entAt B a).depth - (entAt B b).depth) && decide ((entAt B a).depth - (entAt B b).depth ≤ 1)) = true
    rw [ea, ha.even, hb.even, ha.depth, hb.depth]
    simp only [Bool.true_and, Bool.and_eq_true, decide_eq_true_eq]
    omega
  · rw [ent_pair hb.dok]
    show 1 + max (entAt B a).depth (entAt B b).depth = _
    rw [ea, ha.depth, hb.depth]
    omega

theorem textR_ok : ∀ (f : Nat) (L : List Ent) (bs : List Int), SOk L → DOk L → 1 ≤ bs.length → bs.length ≤ f → bs.length ≤ 65536 → (∀ x ∈ bs, 0 ≤ x ∧ x < 256) → TextOk L (textR f L bs).1 (textR f L bs).2 bs.length := by
  intro f
  induction f with
  | zero => intro L bs _ _ h1 h2; omega
  | succ f ih =>
    intro L bs hs hd h1 h2 h3 hr
    unfold textR
    by_cases h : bs.length = 1
    · rw [if_pos h, h]
      obtain ⟨b, rfl⟩ : ∃ b, bs = [b] := List.length_eq_one_iff.1 h
      exact TextOk.one hs hd b (hr b (by simp)).1 (hr b (by simp)).2
    · rw [if_neg h]
      have ia := ih L (bs.take (bs.length / 2)) hs hd (by simp; omega) (by simp; omega) (by simp; omega) (fun x hx => hr x (List.mem_of_mem_take hx))
      have ib := ih (textR f L (bs.take (bs.length / 2))).1 (bs.drop (bs.length / 2)) ia.sok ia.dok (by simp; omega) (by simp; omega) (by simp; omega) (fun x hx => hr x (List.mem_of_mem_drop hx))
      have e1 : (bs.take (bs.length / 2)).length = bs.length / 2 := by simp; omega
      have e2 : (bs.drop (bs.length / 2)).length = bs.length - bs.length / 2 := by simp
      rw [e1] at ia
      rw [e2] at ib
      exact TextOk.two (by omega) h3 ia ib

end Go.Proofs.YtodmpcnpedpheaaDoor

/- The walks of balance.text and balance.Text. -/
set_option linter.unusedSimpArgs false
set_option linter.unusedVariables false
namespace Go.Proofs.YtodmpcnpedpheaaDoor
open Go.RowKit

/-- Letters that lie in a row of bytes. -/
structure BytesAt (w : World) (bb off : Nat) (bs : List Int) : Prop where
  blk : ∃ cur fr, w.heap[bb]? = some (.cells cur 5 fr) ∧ ∀ i (h : i < bs.length), cur[off + i]? = some (.int .u8 bs[i])
  rng : ∀ x ∈ bs, 0 ≤ x ∧ x < 256

theorem BytesAt.cell {w : World} {bb off : Nat} {bs : List Int} (h : BytesAt w bb off bs) (i : Nat) (hi : i < bs.length) : w.cell? ⟨bb, off + i, none⟩ = some (.int .u8 bs[i]) := by
  obtain ⟨cur, fr, h1, h2⟩ := h.blk
  rw [cell_of_block h1]; exact h2 i hi

theorem BytesAt.take {w : World} {bb off : Nat} {bs : List Int} (h : BytesAt w bb off bs) (n : Nat) : BytesAt w bb off (bs.take n) := by
  obtain ⟨cur, fr, h1, h2⟩ := h.blk
  refine ⟨⟨cur, fr, h1, fun i hi => ?_⟩, fun x hx => h.rng x (List.mem_of_mem_take hx)⟩
  have : i < bs.length := by simp at hi; omega
  rw [h2 i this, List.getElem_take]

theorem BytesAt.drop {w : World} {bb off : Nat} {bs : List Int} (h : BytesAt w bb off bs) (n : Nat) : BytesAt w bb (off + n) (bs.drop n) := by
  obtain ⟨cur, fr, h1, h2⟩ := h.blk
  refine ⟨⟨cur, fr, h1, fun i hi => ?_⟩, fun x hx => h.rng x (List.mem_of_mem_drop hx)⟩
  have : n + i < bs.length := by simp at hi; omega
  rw [Nat.add_assoc, h2 (n + i) this, List.getElem_drop]

theorem Stepped.next {w w1 w' : World} {p mb : Nat} {most : Int} {sv sv1 : Value} {L2 : List Ent} (h2 : Fr (fun k => k = p ∨ k = mb ∨ sv.ownBlock = some k) w w1) (h3 : ∀ k, sv1.ownBlock = some k → sv.ownBlock = some k ∨ w.heap.size ≤ k)
    (k : Stepped w1 w' p mb most sv1 L2) : Stepped w w' p mb most sv L2 := by
  obtain ⟨sv2, k1, k2, k3⟩ := k
  refine ⟨sv2, k1, Fr.trans h2 k2 ?_, ?_⟩
  · rintro i (hi | hi | hi) hlt
    · exact .inl hi
    · exact .inr (.inl hi)
    · exact (h3 i hi).elim (fun h => .inr (.inr h)) (fun h => by omega)
  · intro i hi
    rcases k3 i hi with h | h
    · exact h3 i h
    · exact .inr (by have := h2.size; omega)

/-- A block of another type than a store's is as it was. -/
theorem Stepped.block {w w' : World} {p mb : Nat} {most : Int} {sv : Value} {L L' : List Ent} (hS : St w p mb most sv L) (h : Stepped w w' p mb most sv L') {b : Nat} {cs : Array Value} {t : TypeId} {f : Nat × Nat}
    (hb : w.heap[b]? = some (.cells cs t f)) (h1 : t ≠ 57) (h2 : t ≠ 114) : w'.heap[b]? = some (.cells cs t f) := by
  obtain ⟨sv', _, hf, _⟩ := h
  refine hf.kept hb ?_
  rintro (e | e | e)
  · rw [e, hS.ptr] at hb; simp at hb; exact h1 hb.2.1.symm
  · rw [e, hS.mp] at hb; simp at hb
  · rcases hS.own.2 with ⟨e1, _⟩ | ⟨g, cap, cur, e1, _, hg, _⟩
    · rw [e1] at e; simp [Value.ownBlock] at e
    · rw [e1] at e
      simp [Value.ownBlock] at e
      subst e
      rw [hg] at hb; simp at hb; exact h2 hb.2.1.symm

theorem Stepped.bytes {w w' : World} {p mb : Nat} {most : Int} {sv : Value} {L L' : List Ent} (hS : St w p mb most sv L) (h : Stepped w w' p mb most sv L') {bb off : Nat} {bs : List Int} (hb : BytesAt w bb off bs) : BytesAt w' bb off bs := by
  obtain ⟨cur, fr, h1, h2⟩ := hb.blk
  exact ⟨⟨cur, fr, h.block hS h1 (by decide) (by decide), h2⟩, hb.rng⟩

set_option maxRecDepth 100000 in
set_option maxHeartbeats 1000000 in
theorem bal_text : ∀ (f : Nat) (w : World) (p mb : Nat) (most : Int) (sv : Value) (L : List Ent) (bb off n cap : Nat) (bs : List Int), St w p mb most sv L → SOk L → DOk L → BytesAt w bb off bs → bs.length = n → 1 ≤ n → n ≤ f → n ≤ 65536 → n ≤ cap → cap ≤ 9223372036854775807 →
    ((L.length + 2 * n : Nat) : Int) ≤ most → L.length + 2 * n ≤ 1048576 →
    Calls Tryd.prog 82 #[.pointer (some ⟨p, 0, none⟩), .slice (some ⟨bb, off, none⟩) n cap] w fun e w' => e = .returned (.tuple #[.int .i64 (textR f L bs).2, .nilIface]) ∧ Stepped w w' p mb most sv (textR f L bs).1 := by
  intro f
  induction f with
  | zero => intro w p mb most sv L bb off n cap bs _ _ _ _ _ h1 h2; omega
  | succ f ih =>
    intro w p mb most sv L bb off n cap bs hS hO hD hB hlen h1 h2 h3 hc hc2 hm hL
    by_cases hn : n = 1
    · have e1 : (textR (f + 1) L bs) = (addL L (letterEnt (bs.getD 0 0)), addI L (letterEnt (bs.getD 0 0))) := by
        unfold textR; rw [if_pos (by omega)]
      rw [e1]
      have e2 : bs.getD 0 0 = bs[0]'(by omega) := by rw [List.getD_eq_getElem?_getD, List.getElem?_eq_getElem (by omega)]; rfl
      rw [e2]
      have hr := hB.rng (bs[0]'(by omega)) (List.getElem_mem _)
      have CL := Lib.hid (st_Letter hS (bs[0]'(by omega)) hr.1 hr.2 (by omega) (by omega))
      have hb0 := hB.cell 0 (by omega)
      rw [Nat.add_zero] at hb0
      generalize bs[0]'(by omega) = b at *
      subst hn
      clear ih hS hO hD hB e1 e2 hm hlen
      go_enter Tryd.func82, Tryd.ntmps82
      go_wp2_with fail
      refine CL.out.mono ?_
      rintro e w1 ⟨rfl, hst⟩
      go_wp2_with fail
      go_ret2
      exact ⟨rfl, hst⟩
    · have e1 : (textR (f + 1) L bs) = (addL (textR f (textR f L (bs.take (n / 2))).1 (bs.drop (n / 2))).1 (pairEnt (textR f (textR f L (bs.take (n / 2))).1 (bs.drop (n / 2))).1 (textR f L (bs.take (n / 2))).2 (textR f (textR f L (bs.take (n / 2))).1 (bs.drop (n / 2))).2), addI (textR f (textR f L (bs.take (n / 2))).1 (bs.drop (n / 2))).1 (pairEnt (textR f (textR f L (bs.take (n / 2))).1 (bs.drop (n / 2))).1 (textR f L (bs.take (n / 2))).2 (textR f (textR f L (bs.take (n / 2))).1 (bs.drop (n / 2))).2)) := by
        conv => lhs; unfold textR
        rw [if_neg (by omega), hlen]
      rw [e1]
      have la : (bs.take (n / 2)).length = n / 2 := by simp; omega
      have lb : (bs.drop (n / 2)).length = n - n / 2 := by simp; omega
      have ta := textR_ok f L (bs.take (n / 2)) hO hD (by omega) (by omega) (by omega) (hB.take _).rng
      have tb := textR_ok f (textR f L (bs.take (n / 2))).1 (bs.drop (n / 2)) ta.sok ta.dok (by omega) (by omega) (by omega) (hB.drop _).rng
      rw [la] at ta
      rw [lb] at tb
      have c1 := ih w p mb most sv L bb off (n / 2) cap (bs.take (n / 2)) hS hO hD (hB.take _) la (by omega) (by omega) (by omega) (by omega) hc2 (by omega) (by omega)
      have hla := ta.len
      have hlb := tb.len
      have c2 := fun w1 sv1 (h : St w1 p mb most sv1 (textR f L (bs.take (n / 2))).1) (hb : BytesAt w1 bb off bs) => ih w1 p mb most sv1 _ bb (off + n / 2) (n - n / 2) (cap - n / 2) (bs.drop (n / 2)) h ta.sok ta.dok (hb.drop _) lb (by omega) (by omega) (by omega) (by omega) (by omega) (by omega) (by omega)
      obtain ⟨M2, eM⟩ := tb.ext
      have ka : isKnown (textR f (textR f L (bs.take (n / 2))).1 (bs.drop (n / 2))).1 (textR f L (bs.take (n / 2))).2 := by rw [eM]; exact isKnown_append M2 ta.known
      have ea : entAt (textR f (textR f L (bs.take (n / 2))).1 (bs.drop (n / 2))).1 (textR f L (bs.take (n / 2))).2 = entAt (textR f L (bs.take (n / 2))).1 (textR f L (bs.take (n / 2))).2 := by rw [eM]; exact entAt_append _ M2 _ ta.known
      have hw1 := ta.wlen
      have hw2 := tb.wlen
      have c3 := fun w2 sv2 (h : St w2 p mb most sv2 (textR f (textR f L (bs.take (n / 2))).1 (bs.drop (n / 2))).1) => st_Pair h tb.sok _ _ ka tb.known ta.ne tb.ne (by rw [ea, hw1, hw2]; omega) (by omega) (by omega)
      have hB0 := fun w1 (h : Stepped w w1 p mb most sv (textR f L (bs.take (n / 2))).1) => h.bytes hS hB
      have C1 := Lib.hid c1
      have C2 := Lib.hid c2
      have C3 := Lib.hid c3
      have HB := Lib.hid hB0
      clear c1 c2 c3 hB0 ea ka hw1 hw2 eM ta tb hO hD hB hS ih e1 hla hlb la lb hm hlen
      generalize (textR f (textR f L (bs.take (n / 2))).1 (bs.drop (n / 2))).2 = idb at *
      generalize (textR f (textR f L (bs.take (n / 2))).1 (bs.drop (n / 2))).1 = LB at *
      generalize (textR f L (bs.take (n / 2))).2 = ida at *
      generalize (textR f L (bs.take (n / 2))).1 = LA at *
      have hn1 : ((n : Int) == 1) = false := by simp; omega
      have hb1 : (0 : Int) ≤ (n : Int) / 2 := by omega
      have hb2 : (n : Int) / 2 ≤ (cap : Int) := by omega
      have hb3 : (n : Int) / 2 ≤ (n : Int) := by omega
      go_enter Tryd.func82, Tryd.ntmps82
      go_wp2_with fail
      refine C1.out.mono ?_
      rintro e w1 ⟨rfl, hst1⟩
      have hb := HB.out w1 hst1
      obtain ⟨sv1, hS1, hf1, hv1⟩ := hst1
      have D2 := Lib.hid (C2.out w1 sv1 hS1 hb)
      have HF1 := Lib.hid hf1
      have HV1 := Lib.hid hv1
      clear hb hS1 hf1 hv1 C2 HB C1
      go_wp2_with fail
      refine D2.out.mono ?_
      rintro e w2 ⟨rfl, hst2⟩
      obtain ⟨sv2, hS2, hf2, hv2⟩ := hst2
      have D3 := Lib.hid (C3.out w2 sv2 hS2)
      have HF2 := Lib.hid hf2
      have HV2 := Lib.hid hv2
      clear D2 hS2 hf2 hv2 C3
      go_wp2_with fail
      refine D3.out.mono ?_
      rintro e w3 ⟨rfl, hst3⟩
      go_wp2_with fail
      go_ret2
      exact ⟨rfl, Stepped.next HF1.out HV1.out (Stepped.next HF2.out HV2.out hst3)⟩

set_option maxRecDepth 100000 in
set_option maxHeartbeats 1000000 in
theorem bal_Text {w : World} {p mb : Nat} {most : Int} {sv : Value} {L : List Ent} (hS : St w p mb most sv L) (hO : SOk L) (hD : DOk L) (bb off n cap : Nat) (bs : List Int) (hB : BytesAt w bb off bs) (hlen : bs.length = n) (h1 : 1 ≤ n) (h3 : n ≤ 65536) (hc : n ≤ cap) (hc2 : cap ≤ 9223372036854775807)
    (hm : ((L.length + 2 * n : Nat) : Int) ≤ most) (hL : L.length + 2 * n ≤ 1048576) :
    Calls Tryd.prog 61 #[.pointer (some ⟨p, 0, none⟩), .slice (some ⟨bb, off, none⟩) n cap] w fun e w' => e = .returned (.tuple #[.int .i64 (textR n L bs).2, .nilIface]) ∧ Stepped w w' p mb most sv (textR n L bs).1 := by
  have C1 := Lib.hid (bal_text n w p mb most sv L bb off n cap bs hS hO hD hB hlen h1 (Nat.le_refl _) h3 hc hc2 hm hL)
  have hn0 : ((n : Int) == 0) = false := by simp; omega
  clear hS hO hD hB hlen hm hL
  generalize (textR n L bs).2 = id at *
  generalize (textR n L bs).1 = LB at *
  go_enter Tryd.func61, Tryd.ntmps61
  go_wp2_with fail
  refine C1.out.mono ?_
  rintro e w1 ⟨rfl, hst1⟩
  go_wp2_with fail
  go_ret2
  exact ⟨rfl, hst1⟩

set_option maxRecDepth 100000 in
set_option maxHeartbeats 1000000 in
theorem bal_Text_nil {w : World} {p : Nat} (a : Option Addr) (cap : Nat) :
    Calls Tryd.prog 61 #[.pointer (some ⟨p, 0, none⟩), .slice a 0 cap] w fun e w' => e = .returned (.tuple #[.int .i64 0, .nilIface]) ∧ w = w' := by
  go_enter Tryd.func61, Tryd.ntmps61
  go_wp2_with fail
  go_ret2
  exact ⟨rfl, rfl⟩

end Go.Proofs.YtodmpcnpedpheaaDoor

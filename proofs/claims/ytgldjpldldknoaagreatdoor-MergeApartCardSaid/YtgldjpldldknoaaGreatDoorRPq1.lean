/- A parser in memory: a store, a table of keys, and what calls leave as it was. -/
import Derived.Test.YtgldjpldldknoaaGreatDoorRBof0
import Derived.Test.YtgldjpldldknoaaGreatDoorRSt5
import Derived.Shelf.Spec.TrailingZeros
set_option linter.unusedSimpArgs false
set_option linter.unusedVariables false
namespace Go.Proofs.YtgldjpldldknoaaGreatDoor
open Go.RowKit
def tyP (t : TypeId) : Bool := t == 130 || t == 208 || t == 100 || t == 84
theorem tyP_no {t : TypeId} (h : tyP t = false) : t ≠ 130 ∧ t ≠ 208 ∧ t ≠ 100 ∧ t ≠ 84 := by
 unfold tyP at h
 simp only [Bool.or_eq_false_iff, beq_eq_false_iff_ne, ne_eq] at h
 exact ⟨h.1.1.1, h.1.1.2, h.1.2, h.2⟩
structure Ks (S : Nat → Prop) (B mb : Nat) (w w' : World) : Prop where
 os : w'.os = w.os
 tape : w'.tape = w.tape
 output : w'.output = w.output
 size : w.heap.size ≤ w'.heap.size
 low : ∀ k : Nat, k < B → k < w.heap.size → ¬ S k → w'.heap[k]? = w.heap[k]?
 cells : ∀ (k : Nat) (cs : Array Value) (t : TypeId) (f : Nat × Nat), w.heap[k]? = some (Obj.cells cs t f) → tyP t = false → ¬ S k → w'.heap[k]? = some (.cells cs t f)
 maps : ∀ (k : Nat) (es : Array MapEntry) (n : Nat), w.heap[k]? = some (Obj.map es n) → k ≠ mb → ¬ S k → w'.heap[k]? = some (.map es n)
def Kx (B mb : Nat) (w w' : World) : Prop := Ks (fun _ => False) B mb w w'
theorem Ks.refl (S : Nat → Prop) (B mb : Nat) (w : World) : Ks S B mb w w := ⟨rfl, rfl, rfl, Nat.le_refl _, fun _ _ _ _ => rfl, fun _ _ _ _ h _ _ => h, fun _ _ _ h _ _ => h⟩
theorem Ks.trans {S : Nat → Prop} {B mb : Nat} {a b c : World} (h : Ks S B mb a b) (k : Ks S B mb b c) : Ks S B mb a c :=
 ⟨k.os.trans h.os, k.tape.trans h.tape, k.output.trans h.output, Nat.le_trans h.size k.size,
  fun i h1 h2 h3 => (k.low i h1 (Nat.lt_of_lt_of_le h2 h.size) h3).trans (h.low i h1 h2 h3),
  fun i cs t f h1 h2 h3 => k.cells i cs t f (h.cells i cs t f h1 h2 h3) h2 h3, fun i es n h1 h2 h3 => k.maps i es n (h.maps i es n h1 h2 h3) h2 h3⟩
theorem Ks.of0 {S : Nat → Prop} {B mb : Nat} {w w' : World} (h : Fr0 w w') : Ks S B mb w w' :=
 ⟨h.os, h.tape, h.output, h.size, fun i _ h2 _ => h.block i h2 id, fun _ _ _ _ h1 _ _ => h.kept h1, fun _ _ _ h1 _ _ => h.kept h1⟩
theorem Ks.weak {S S' : Nat → Prop} {B mb : Nat} {w w' : World} (h : Ks S B mb w w') (hS : ∀ k, k < w.heap.size → S k → S' k) : Ks S' B mb w w' :=
 ⟨h.os, h.tape, h.output, h.size, fun k h1 h2 h3 => h.low k h1 h2 (fun e => h3 (hS k h2 e)), fun k cs t f h1 h2 h3 => h.cells k cs t f h1 h2 (fun e => h3 (hS k (lt_of_block h1) e)),
  fun k es n h1 h2 h3 => h.maps k es n h1 h2 (fun e => h3 (hS k (lt_of_block h1) e))⟩
theorem Ks.next {S S' : Nat → Prop} {B mb : Nat} {w0 w w' : World} (h : Ks S B mb w0 w) (k : Ks S' B mb w w') (hS : ∀ i, i < w0.heap.size → S' i → S i) : Ks S B mb w0 w' := by
 refine ⟨k.os.trans h.os, k.tape.trans h.tape, k.output.trans h.output, Nat.le_trans h.size k.size, ?_, ?_, ?_⟩
 · intro i h1 h2 h3
   exact (k.low i h1 (Nat.lt_of_lt_of_le h2 h.size) (fun e => h3 (hS i h2 e))).trans (h.low i h1 h2 h3)
 · intro i cs t f h1 h2 h3
   exact k.cells i cs t f (h.cells i cs t f h1 h2 h3) h2 (fun e => h3 (hS i (lt_of_block h1) e))
 · intro i es n h1 h2 h3
   exact k.maps i es n (h.maps i es n h1 h2 h3) h2 (fun e => h3 (hS i (lt_of_block h1) e))
theorem Ks.fr {S S' : Nat → Prop} {B mb : Nat} {w0 w w' : World} (h : Ks S B mb w0 w) (k : Fr S' w w') (hS : ∀ i, i < w0.heap.size → S' i → S i) : Ks S B mb w0 w' :=
 h.next (S' := S') ⟨k.os, k.tape, k.output, k.size, fun i h1 h2 h3 => k.block i h2 h3, fun i cs t f h1 h2 h3 => k.kept h1 h3, fun i es n h1 h2 h3 => k.kept h1 h3⟩ hS
theorem Ks.drew {S : Nat → Prop} {B mb : Nat} {w0 w : World} (h : Ks S B mb w0 w) : Ks S B mb w0 w.drew := h.trans (Ks.of0 (Fr0.refl w).drew)
theorem Ks.alloc {S : Nat → Prop} {B mb : Nat} {w0 w : World} (h : Ks S B mb w0 w) (o : Obj) : Ks S B mb w0 (w.alloc o) := h.trans (Ks.of0 ((Fr0.refl w).alloc o))
theorem Ks.setCell {S : Nat → Prop} {B mb : Nat} {w0 w : World} (h : Ks S B mb w0 w) (a : Addr) (u : Value) (ha : w0.heap.size ≤ a.block ∨ S a.block) : Ks S B mb w0 (w.setCell a u) :=
 h.fr (S' := fun k => k = a.block) (Fr.setCell (Fr.refl _ w) a u (fun _ => rfl)) (fun i h1 h2 => by
  subst h2
  rcases ha with ha | ha
  · omega
  · exact ha)
theorem Ks.grown {S : Nat → Prop} {B mb : Nat} {w0 w w' : World} {row : Option Nat} (h : Ks S B mb w0 w) (hg : w.grownBy w' row) (hr : ∀ k, row = some k → w0.heap.size ≤ k ∨ S k) : Ks S B mb w0 w' :=
 h.fr (S' := fun k => row = some k) (Fr.grown (Fr.refl _ w) hg (fun k hk _ => hk)) (fun i h1 h2 => by
  rcases hr i h2 with g | g
  · omega
  · exact g)
theorem Ks.ofK {S : Nat → Prop} {B mb : Nat} {w w' : World} (h : Kp B mb w w') : Ks S B mb w w' :=
 ⟨h.os, h.tape, h.output, h.size, fun i h1 h2 _ => h.low i h1 h2, fun i cs t f h1 h2 _ => h.cells i cs t f h1 (tyP_no h2).2.2.1 (tyP_no h2).2.2.2, fun i es n h1 h2 _ => h.maps i es n h1 h2⟩
theorem Ks.below {S : Nat → Prop} {B mb : Nat} {w w' : World} (h : Ks S B mb w w') (hB : B ≤ w.heap.size) (hS : ∀ k, S k → B ≤ k) : Below B w w' :=
 ⟨h.os, h.tape, h.output, h.size, fun k hk => h.low k hk (by omega) (fun e => by have := hS k e; omega)⟩
theorem Ks.cell {S : Nat → Prop} {B mb : Nat} {w w' : World} (h : Ks S B mb w w') {k : Nat} {cs : Array Value} {t : TypeId} {f : Nat × Nat} (hb : w.heap[k]? = some (.cells cs t f)) (ht : tyP t = false) (hS : ¬ S k) (o : Nat) : w'.cell? ⟨k, o, none⟩ = cs[o]? := by
 rw [cell_of_block (h.cells k cs t f hb ht hS)]
theorem Ks.owns {S : Nat → Prop} {B mb : Nat} {w w' : World} (h : Ks S B mb w w') {base : Nat} {e : TypeId} {size n : Nat} {v : Value} {xs : List Value}
    (ho : w.ownsRow base e size v n xs) (h1 : tyP e = false) (hS : ∀ k, v.ownBlock = some k → ¬ S k) : w'.ownsRow base e size v n xs := by
 refine ⟨ho.1, ?_⟩
 rcases ho.2 with h5 | ⟨g, cap, cur, h5, hb, hg, r⟩
 · exact .inl h5
 · exact .inr ⟨g, cap, cur, h5, hb, h.cells _ _ _ _ hg h1 (hS g (by rw [h5]; rfl)), r⟩
theorem Kx.owns {B mb : Nat} {w w' : World} (h : Kx B mb w w') {base : Nat} {e : TypeId} {size n : Nat} {v : Value} {xs : List Value}
    (ho : w.ownsRow base e size v n xs) (h1 : tyP e = false) : w'.ownsRow base e size v n xs := Ks.owns h ho h1 (fun _ _ => id)
theorem Kx.all0 {mb : Nat} {w w1 w' : World} (h0 : Fr0 w w1) (h : Kx w.heap.size mb w1 w') : Fr0 w w' :=
 ⟨h.os.trans h0.os, h.tape.trans h0.tape, h.output.trans h0.output, Nat.le_trans h0.size h.size, fun k hk _ => (h.low k hk (Nat.lt_of_lt_of_le hk h0.size) id).trans (h0.block k hk id)⟩
structure Ko (B : Nat) (w w' : World) : Prop where
 size : w.heap.size ≤ w'.heap.size
 low : ∀ k : Nat, k < B → k < w.heap.size → w'.heap[k]? = w.heap[k]?
 cells : ∀ (k : Nat) (cs : Array Value) (t : TypeId) (f : Nat × Nat), w.heap[k]? = some (Obj.cells cs t f) → (tyP t || t == 107) = true → w'.heap[k]? = some (.cells cs t f)
 maps : ∀ (k : Nat) (es : Array MapEntry) (n : Nat), w.heap[k]? = some (Obj.map es n) → w'.heap[k]? = some (.map es n)
theorem Ko.refl (B : Nat) (w : World) : Ko B w w := ⟨Nat.le_refl _, fun _ _ _ => rfl, fun _ _ _ _ h _ => h, fun _ _ _ h => h⟩
theorem Ko.trans {B : Nat} {a b c : World} (h : Ko B a b) (k : Ko B b c) : Ko B a c :=
 ⟨Nat.le_trans h.size k.size, fun i h1 h2 => (k.low i h1 (Nat.lt_of_lt_of_le h2 h.size)).trans (h.low i h1 h2), fun i cs t f h1 h2 => k.cells i cs t f (h.cells i cs t f h1 h2) h2, fun i es n h1 => k.maps i es n (h.maps i es n h1)⟩
theorem Ko.of0 {B : Nat} {w w' : World} (h : Fr0 w w') : Ko B w w' := ⟨h.size, fun i _ h2 => h.block i h2 id, fun _ _ _ _ h1 _ => h.kept h1, fun _ _ _ h1 => h.kept h1⟩
theorem Ko.fr {B : Nat} {S : Nat → Prop} {w0 w w' : World} (h : Ko B w0 w) (k : Fr S w w') (hS : ∀ i, S i → B ≤ i ∧ ∃ cs t f, w.heap[i]? = some (Obj.cells cs t f) ∧ (tyP t || t == 107) = false) : Ko B w0 w' := by
 refine h.trans ⟨k.size, fun i h1 h2 => k.block i h2 (fun e => by have := (hS i e).1; omega), fun i cs t f h1 h2 => k.kept h1 (fun e => ?_), fun i es n h1 => k.kept h1 (fun e => ?_)⟩
 · obtain ⟨_, cs', t', f', h3, h4⟩ := hS i e
   rw [h1] at h3
   cases h3
   rw [h2] at h4
   cases h4
 · obtain ⟨_, cs', t', f', h3, h4⟩ := hS i e
   rw [h1] at h3
   cases h3
theorem Ko.drew {B : Nat} {w0 w : World} (h : Ko B w0 w) : Ko B w0 w.drew := h.trans (Ko.of0 (Fr0.refl w).drew)
theorem Ko.alloc {B : Nat} {w0 w : World} (h : Ko B w0 w) (o : Obj) : Ko B w0 (w.alloc o) := h.trans (Ko.of0 ((Fr0.refl w).alloc o))
theorem Ko.setCell {B : Nat} {w0 w : World} (h : Ko B w0 w) (a : Addr) (u : Value) {cs : Array Value} {t : TypeId} {f : Nat × Nat} (hb : B ≤ a.block) (hc : w.heap[a.block]? = some (Obj.cells cs t f)) (ht : (tyP t || t == 107) = false) : Ko B w0 (w.setCell a u) :=
 h.fr (S := fun k => k = a.block) (Fr.setCell (Fr.refl _ w) a u (fun _ => rfl)) (fun i e => by subst e; exact ⟨hb, cs, t, f, hc, ht⟩)
theorem Ko.grown {B : Nat} {w0 w w' : World} {row : Option Nat} (h : Ko B w0 w) (hg : w.grownBy w' row) (hr : ∀ k, row = some k → B ≤ k ∧ ∃ cs t f, w.heap[k]? = some (Obj.cells cs t f) ∧ (tyP t || t == 107) = false) : Ko B w0 w' :=
 h.fr (S := fun k => row = some k) (Fr.grown (Fr.refl _ w) hg (fun k hk _ => hk)) hr
theorem Ko.owns {B : Nat} {w w' : World} (h : Ko B w w') {base : Nat} {e : TypeId} {size n : Nat} {v : Value} {xs : List Value}
    (ho : w.ownsRow base e size v n xs) (h1 : tyP e = true) : w'.ownsRow base e size v n xs := by
 refine ⟨ho.1, ?_⟩
 rcases ho.2 with h5 | ⟨g, cap, cur, h5, hb, hg, r⟩
 · exact .inl h5
 · exact .inr ⟨g, cap, cur, h5, hb, h.cells _ _ _ _ hg (by rw [h1]; rfl), r⟩
def Tb (B : Nat) (w : World) (tp p : Nat) (T : List KRow) : Prop :=
 B ≤ tp ∧ ∃ rv, w.heap[tp]? = some (Obj.cells #[.pointer (some ⟨p, 0, none⟩), rv] 130 (0, 0)) ∧ w.ownsRow B 208 3 rv T.length (T.flatMap KRow.vals)
theorem Tb.keptO {B : Nat} {w w' : World} {tp p : Nat} {T : List KRow} (h : Tb B w tp p T) (hf : Ko B w w') : Tb B w' tp p T := by
 obtain ⟨h0, rv, h1, h2⟩ := h
 exact ⟨h0, rv, hf.cells _ _ _ _ h1 (by decide), hf.owns h2 (by decide)⟩
theorem Tb.kept0 {B : Nat} {w w' : World} {tp p : Nat} {T : List KRow} (h : Tb B w tp p T) (hf : Fr0 w w') : Tb B w' tp p T := h.keptO (Ko.of0 hf)
theorem Tb.keptK {B C mb : Nat} {w w' : World} {tp p : Nat} {T : List KRow} (h : Tb B w tp p T) (hf : Kp C mb w w') : Tb B w' tp p T := by
 obtain ⟨h0, rv, h1, h2⟩ := h
 exact ⟨h0, rv, hf.cells _ _ _ _ h1 (by decide) (by decide), hf.owns h2 (by decide) (by decide)⟩
theorem Sto.keptO {B : Nat} {w w' : World} {p mb : Nat} {most : Int} {L : List Ent} (hS : Sto B w p mb most L) (h : Ko B w w') : Sto B w' p mb most L := by
 obtain ⟨sv, hS, r⟩ := hS
 exact ⟨sv, ⟨h.cells _ _ _ _ hS.ptr (by decide), h.maps _ _ _ hS.mp, h.owns hS.own (by decide), hS.big⟩, r⟩
def Deb (B : Nat) (w : World) : Prop := 0 < B ∧ TabAt 0 Lib.deBruijn64tab w
theorem Deb.low {B : Nat} {w w' : World} (h : Deb B w) (hs : ∀ k, k < B → k < w.heap.size → w'.heap[k]? = w.heap[k]?) : Deb B w' := by
 refine ⟨h.1, fun j hj => ?_⟩
 have h2 := h.2 j hj
 have hlt := World.block_lt_of_cell? w _ h2
 rw [← h2]
 exact World.cell?_of_block (hs _ h.1 hlt)
structure Pq (B : Nat) (w : World) (pp tp p mb : Nat) (most : Int) (L : List Ent) (T : List KRow) : Prop where
 st : Sto B w p mb most L
 par : w.heap[pp]? = some (Obj.cells #[.pointer (some ⟨p, 0, none⟩), .pointer (some ⟨tp, 0, none⟩)] 107 (0, 0))
 new : B ≤ pp
 tab : Tb B w tp p T
 ok : TabOk L T
 tl : T.length ≤ L.length + 1
 sok : SOk L
 dok : DOk L
 uq : Uq L
 base : B ≤ w.heap.size
 deb : Deb B w
 big : L.length ≤ 1000000
theorem Pq.keptO {B : Nat} {w w' : World} {pp tp p mb : Nat} {most : Int} {L : List Ent} {T : List KRow} (h : Pq B w pp tp p mb most L T) (hf : Ko B w w') : Pq B w' pp tp p mb most L T :=
 ⟨h.st.keptO hf, hf.cells _ _ _ _ h.par (by decide), h.new, h.tab.keptO hf, h.ok, h.tl, h.sok, h.dok, h.uq, Nat.le_trans h.base hf.size, h.deb.low hf.low, h.big⟩
theorem Pq.kept0 {B : Nat} {w w' : World} {pp tp p mb : Nat} {most : Int} {L : List Ent} {T : List KRow} (h : Pq B w pp tp p mb most L T) (hf : Fr0 w w') : Pq B w' pp tp p mb most L T := h.keptO (Ko.of0 hf)
theorem Pq.rules {B : Nat} {w w' : World} {pp tp p mb : Nat} {most : Int} {L L' : List Ent} {T : List KRow} {n : Nat} (h : Pq B w pp tp p mb most L T) (hS : Sto B w' p mb most L') (hK : Kp B mb w w') (hg : Gu L L' n) (hb : L'.length ≤ 1000000) : Pq B w' pp tp p mb most L' T := by
 obtain ⟨M, hM⟩ := hg.gr.ext
 refine ⟨hS, hK.cells _ _ _ _ h.par (by decide) (by decide), h.new, h.tab.keptK hK, ?_, ?_, hg.gr.sok, hg.gr.dok, hg.uq, Nat.le_trans h.base hK.size, h.deb.low hK.low, hb⟩
 · have := hg.gr.dok
   rw [hM] at this ⊢
   exact h.ok.more h.dok this
 · have := h.tl
   rw [hM, List.length_append]
   omega
theorem Pq.front {B : Nat} {w : World} {pp tp p mb : Nat} {most : Int} {L : List Ent} {T : List KRow} (h : Pq B w pp tp p mb most L T) :
    w.cell? ⟨pp, 0, none⟩ = some (.pointer (some ⟨p, 0, none⟩)) ∧ w.cell? ⟨pp, 1, none⟩ = some (.pointer (some ⟨tp, 0, none⟩)) ∧ pp < w.heap.size :=
 ⟨by rw [cell_of_block h.par]; rfl, by rw [cell_of_block h.par]; rfl, lt_of_block h.par⟩
theorem Pq.room {B : Nat} {w : World} {pp tp p mb : Nat} {most : Int} {L : List Ent} {T : List KRow} (h : Pq B w pp tp p mb most L T) {n : Nat} (hm : ((L.length + n : Nat) : Int) ≤ most) (hb : L.length + n ≤ 1048576) : Room B w p mb most L n :=
 ⟨h.st, h.base, h.sok, h.dok, hm, hb⟩
end Go.Proofs.YtgldjpldldknoaaGreatDoor
/- A parser's store behind a call that makes balanced rules. -/
set_option linter.unusedSimpArgs false
set_option linter.unusedVariables false
namespace Go.Proofs.YtgldjpldldknoaaGreatDoor
open Go.RowKit
theorem Pq.made {B : Nat} {w w' : World} {pp tp p mb : Nat} {most : Int} {L L' : List Ent} {T : List KRow} {k : Nat} (h : Pq B w pp tp p mb most L T) (hS : Sto B w' p mb most L') (hK : Kp B mb w w') (hg : Grows L L' k) (hb : L'.length ≤ 1000000) :
    Pq B w' pp tp p mb most L' T ∧ Kx B mb w w' ∧ Gu L L' k :=
 ⟨h.rules hS hK ⟨hg, hg.uq h.uq⟩ hb, Ks.ofK hK, ⟨hg, hg.uq h.uq⟩⟩
end Go.Proofs.YtgldjpldldknoaaGreatDoor

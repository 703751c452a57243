/- The walks of Store.Rule and of package avl. -/
import Derived.Test.YtclpndigmidjkaaGreatTxt
import Derived.Test.YtclpndigmidjkaaGreatAvl0
set_option linter.unusedSimpArgs false
set_option linter.unusedVariables false
namespace Go.Proofs.YtclpndigmidjkaaGreat
open Go.RowKit

set_option maxRecDepth 100000 in
set_option maxHeartbeats 400000 in
theorem st_Rule_cell (p lb n cap k : Nat) (id : Int) (x : Ent) (w : World) (hid : id = (k : Int) + 1) (hk : k < n) (hn : n ≤ 1048576)
    (hK : ∀ W, Fr0 w W → Calls Tryz.prog 94 #[.pointer (some ⟨p, 0, none⟩), .int .i64 id] W fun e w' => e = .returned (.bool true) ∧ W = w')
    (hp : w.cell? ⟨p, 1, none⟩ = some (.slice (some ⟨lb, 0, none⟩) n cap))
    (h0 : w.cell? ⟨lb, k * 13, none⟩ = some (.int .i64 x.rule.kind))
    (h1 : w.cell? ⟨lb, k * 13 + 1, none⟩ = some (.int .u8 x.rule.letter))
    (h2 : w.cell? ⟨lb, k * 13 + 2, none⟩ = some (.int .i64 x.rule.left))
    (h3 : w.cell? ⟨lb, k * 13 + 3, none⟩ = some (.int .i64 x.rule.right))
    (h4 : w.cell? ⟨lb, k * 13 + 4, none⟩ = some (.int .i64 x.rule.times)) :
    Calls Tryz.prog 126 #[.pointer (some ⟨p, 0, none⟩), .int .i64 id] w fun e w' => e = .returned (.tuple #[.agg #[.int .i64 x.rule.kind, .int .u8 x.rule.letter, .int .i64 x.rule.left, .int .i64 x.rule.right, .int .i64 x.rule.times], .nilIface]) ∧ Fr0 w w' := by
  subst hid
  have lp := World.block_lt_of_cell? w _ hp
  have ll := World.block_lt_of_cell? w _ h0
  have CK := Lib.hid hK
  have hz : (((k : Int) + 1) == 0) = false := by simp; omega
  clear hK
  go_enter Tryz.func126, Tryz.ntmps126
  go_wp2_with fail
  refine (CK.out _ ((Fr0.refl w).alloc _)).mono ?_
  rintro e w' ⟨rfl, rfl⟩
  go_wp2_with fail
  exact bodyPost_ret (v := .tuple #[.agg #[.int .i64 x.rule.kind, .int .u8 x.rule.letter, .int .i64 x.rule.left, .int .i64 x.rule.right, .int .i64 x.rule.times], .nilIface]) (by simp [results, Tryz.results126, go_sem]) rfl
    ⟨rfl, by (repeat' (first | (with_reducible exact Fr0.refl _) | (with_reducible refine Fr0.setCell ?_ _ _ ?_) | (with_reducible refine Fr0.alloc ?_ _) | (with_reducible refine Fr0.drew ?_))) <;> first | omega | (dsimp only; omega) | (simp; done) | (simp; omega)⟩

theorem st_Rule {w : World} {p mb : Nat} {most : Int} {sv : Value} {L : List Ent} (hS : St w p mb most sv L) (id : Int) (h : isKnown L id) (h0 : id ≠ 0) :
    Calls Tryz.prog 126 #[.pointer (some ⟨p, 0, none⟩), .int .i64 id] w fun e w' => e = .returned (.tuple #[.agg #[.int .i64 (entAt L id).rule.kind, .int .u8 (entAt L id).rule.letter, .int .i64 (entAt L id).rule.left, .int .i64 (entAt L id).rule.right, .int .i64 (entAt L id).rule.times], .nilIface]) ∧ Fr0 w w' := by
  have hK := fun W (hW : Fr0 w W) => st_known_yes (hS.kept0 hW) id h
  obtain ⟨h1, h2⟩ := h
  obtain ⟨k, hk⟩ : ∃ k : Nat, id = (k : Int) + 1 := ⟨(id - 1).toNat, by omega⟩
  subst hk
  have hlt : k < L.length := by omega
  obtain ⟨lb, cap, rfl, hc⟩ := owned_ent hS (List.getElem?_eq_getElem hlt)
  rw [entAt_succ L k hlt]
  exact st_Rule_cell p lb L.length cap k _ L[k] w rfl hlt hS.big hK (cells3 hS.ptr).2.1 (hc 0 _ rfl) (hc 1 _ rfl) (hc 2 _ rfl) (hc 3 _ rfl) (hc 4 _ rfl)

/-- What was there is as it was, but for the blocks of the store p (its map is mb; all its blocks lie from B on). -/
structure Kp (B mb : Nat) (w w' : World) : Prop where
  os : w'.os = w.os
  tape : w'.tape = w.tape
  output : w'.output = w.output
  size : w.heap.size ≤ w'.heap.size
  low : ∀ k : Nat, k < B → k < w.heap.size → w'.heap[k]? = w.heap[k]?
  cells : ∀ (k : Nat) (cs : Array Value) (t : TypeId) (f : Nat × Nat), w.heap[k]? = some (Obj.cells cs t f) → t ≠ 121 → t ≠ 183 → w'.heap[k]? = some (.cells cs t f)
  maps : ∀ (k : Nat) (es : Array MapEntry) (n : Nat), w.heap[k]? = some (Obj.map es n) → k ≠ mb → w'.heap[k]? = some (.map es n)

theorem Kp.refl (B mb : Nat) (w : World) : Kp B mb w w := ⟨rfl, rfl, rfl, Nat.le_refl _, fun _ _ _ => rfl, fun _ _ _ _ h _ _ => h, fun _ _ _ h _ => h⟩
theorem Kp.trans {B mb : Nat} {a b c : World} (h : Kp B mb a b) (k : Kp B mb b c) : Kp B mb a c :=
  ⟨k.os.trans h.os, k.tape.trans h.tape, k.output.trans h.output, Nat.le_trans h.size k.size,
    fun i h1 h2 => (k.low i h1 (Nat.lt_of_lt_of_le h2 h.size)).trans (h.low i h1 h2),
    fun i cs t f h1 h2 h3 => k.cells i cs t f (h.cells i cs t f h1 h2 h3) h2 h3, fun i es n h1 h2 => k.maps i es n (h.maps i es n h1 h2) h2⟩
theorem Kp.of0 {B mb : Nat} {w w' : World} (h : Fr0 w w') : Kp B mb w w' :=
  ⟨h.os, h.tape, h.output, h.size, fun i _ h2 => h.block i h2 id, fun _ _ _ _ h1 _ _ => h.kept h1, fun _ _ _ h1 _ => h.kept h1⟩
theorem Kp.below {B mb : Nat} {w w' : World} (h : Kp B mb w w') (hB : B ≤ w.heap.size) : Below B w w' :=
  ⟨h.os, h.tape, h.output, h.size, fun k hk => h.low k hk (by omega)⟩
theorem Kp.owns {B mb : Nat} {w w' : World} (h : Kp B mb w w') {base : Nat} {e : TypeId} {size n : Nat} {v : Value} {xs : List Value}
    (ho : w.ownsRow base e size v n xs) (h1 : e ≠ 121) (h2 : e ≠ 183) : w'.ownsRow base e size v n xs := by
  refine ⟨ho.1, ?_⟩
  rcases ho.2 with h3 | ⟨g, cap, cur, h3, hb, hg, r⟩
  · exact .inl h3
  · exact .inr ⟨g, cap, cur, h3, hb, h.cells _ _ _ _ hg h1 h2, r⟩

/-- A store whose blocks lie from B on. -/
def Sto (B : Nat) (w : World) (p mb : Nat) (most : Int) (L : List Ent) : Prop := ∃ sv, St w p mb most sv L ∧ B ≤ p ∧ B ≤ mb ∧ ∀ k, sv.ownBlock = some k → B ≤ k

theorem Sto.kept0 {B : Nat} {w w' : World} {p mb : Nat} {most : Int} {L : List Ent} (h : Sto B w p mb most L) (hf : Fr0 w w') : Sto B w' p mb most L := by
  obtain ⟨sv, h1, h2⟩ := h
  exact ⟨sv, h1.kept0 hf, h2⟩

theorem Sto.step {B : Nat} {w w' : World} {p mb : Nat} {most : Int} {sv : Value} {L L' : List Ent} (hS : St w p mb most sv L) (h1 : B ≤ p) (h2 : B ≤ mb) (h3 : ∀ k, sv.ownBlock = some k → B ≤ k) (hB : B ≤ w.heap.size) (h : Stepped w w' p mb most sv L') :
    Sto B w' p mb most L' ∧ Kp B mb w w' := by
  have hb := @Stepped.block w w' p mb most sv L L' hS h
  obtain ⟨sv', hS', hf, hv⟩ := h
  refine ⟨⟨sv', hS', h1, h2, fun k hk => (hv k hk).elim (h3 k) (fun h => by omega)⟩, ⟨hf.os, hf.tape, hf.output, hf.size, fun k hk hlt => hf.block k hlt ?_, fun k cs t f e n1 n2 => hb e n1 n2, fun k es n e ne => hf.kept e ?_⟩⟩
  · rintro (e | e | e)
    · omega
    · omega
    · have := h3 k e; omega
  · rintro (e' | e' | e')
    · rw [e', hS.ptr] at e; simp at e
    · exact ne e'
    · rcases hS.own.2 with ⟨e1, _⟩ | ⟨g, cap, cur, e1, _, hg, _⟩
      · rw [e1] at e'; simp [Value.ownBlock] at e'
      · rw [e1] at e'
        simp [Value.ownBlock] at e'
        subst e'
        rw [hg] at e; simp at e

/-- A store with room for n rules more. -/
structure Room (B : Nat) (w : World) (p mb : Nat) (most : Int) (L : List Ent) (n : Nat) : Prop where
  st : Sto B w p mb most L
  base : B ≤ w.heap.size
  sok : SOk L
  dok : DOk L
  most : ((L.length + n : Nat) : Int) ≤ most
  big : L.length + n ≤ 1048576

theorem Room.kept0 {B : Nat} {w w' : World} {p mb : Nat} {most : Int} {L : List Ent} {n : Nat} (h : Room B w p mb most L n) (hf : Fr0 w w') : Room B w' p mb most L n := ⟨h.st.kept0 hf, Nat.le_trans h.base hf.size, h.sok, h.dok, h.most, h.big⟩
theorem Room.less {B : Nat} {w : World} {p mb : Nat} {most : Int} {L : List Ent} {n m : Nat} (h : Room B w p mb most L n) (hm : m ≤ n) : Room B w p mb most L m := ⟨h.st, h.base, h.sok, h.dok, by have := h.most; omega, by have := h.big; omega⟩
theorem Room.next {B : Nat} {w w' : World} {p mb : Nat} {most : Int} {L L' : List Ent} {n m k : Nat} (h : Room B w p mb most L n) (hS : Sto B w' p mb most L') (hK : Kp B mb w w') (hg : Grows L L' m) (hk : m + k ≤ n) : Room B w' p mb most L' k :=
  ⟨hS, Nat.le_trans h.base hK.size, hg.sok, hg.dok, by have := h.most; have := hg.len; omega, by have := h.big; have := hg.len; omega⟩

theorem Grows.le {A B : List Ent} {m n : Nat} (h : Grows A B m) (hk : m ≤ n) : Grows A B n := ⟨h.ext, by have := h.len; omega, h.sok, h.dok⟩

theorem sto_Depth {B : Nat} {w : World} {p mb : Nat} {most : Int} {L : List Ent} (h : Sto B w p mb most L) (id : Int) (hk : isKnown L id) :
    Calls Tryz.prog 81 #[.pointer (some ⟨p, 0, none⟩), .int .i64 id] w fun e w' => e = .returned (.tuple #[.int .i64 (entAt L id).depth, .nilIface]) ∧ Fr0 w w' := by
  obtain ⟨sv, hS, _⟩ := h; exact st_Depth hS id hk
theorem sto_Weight {B : Nat} {w : World} {p mb : Nat} {most : Int} {L : List Ent} (h : Sto B w p mb most L) (id : Int) (hk : isKnown L id) :
    Calls Tryz.prog 71 #[.pointer (some ⟨p, 0, none⟩), .int .i64 id] w fun e w' => e = .returned (.tuple #[.agg #[.int .i64 (entAt L id).wt.len, .int .i64 (entAt L id).wt.lines, .int .i64 (entAt L id).wt.head, .int .i64 (entAt L id).wt.tail, .int .u64 (entAt L id).wt.val, .int .u64 (entAt L id).wt.scale], .nilIface]) ∧ Fr0 w w' := by
  obtain ⟨sv, hS, _⟩ := h; exact st_Weight hS id hk
theorem sto_Even {B : Nat} {w : World} {p mb : Nat} {most : Int} {L : List Ent} (h : Sto B w p mb most L) (id : Int) (hk : isKnown L id) :
    Calls Tryz.prog 118 #[.pointer (some ⟨p, 0, none⟩), .int .i64 id] w fun e w' => e = .returned (.bool (entAt L id).even) ∧ Fr0 w w' := by
  obtain ⟨sv, hS, _⟩ := h; exact st_Even hS id hk
theorem sto_Rule {B : Nat} {w : World} {p mb : Nat} {most : Int} {L : List Ent} (h : Sto B w p mb most L) (id : Int) (hk : isKnown L id) (h0 : id ≠ 0) :
    Calls Tryz.prog 126 #[.pointer (some ⟨p, 0, none⟩), .int .i64 id] w fun e w' => e = .returned (.tuple #[.agg #[.int .i64 (entAt L id).rule.kind, .int .u8 (entAt L id).rule.letter, .int .i64 (entAt L id).rule.left, .int .i64 (entAt L id).rule.right, .int .i64 (entAt L id).rule.times], .nilIface]) ∧ Fr0 w w' := by
  obtain ⟨sv, hS, _⟩ := h; exact st_Rule hS id hk h0

/-- A call that makes a balanced text; D: its depth and the number of new rules. -/
def APost (B : Nat) (w : World) (p mb : Nat) (most : Int) (L : List Ent) (t : List Int) (D : Int → Nat → Prop) (e : Ending) (w' : World) : Prop :=
  ∃ L' id d k, e = .returned (.tuple #[.int .i64 id, .nilIface]) ∧ Sto B w' p mb most L' ∧ Kp B mb w w' ∧ Grows L L' k ∧ Bal L' id t d ∧ D d k

theorem APost.ret {B : Nat} {w : World} {p mb : Nat} {most : Int} {L : List Ent} {t : List Int} {D : Int → Nat → Prop} {e : Ending} {w' : World} (h : APost B w p mb most L t D e w') : ∃ id, e = .returned (.tuple #[.int .i64 id, .nilIface]) := by
  obtain ⟨L', id, d, k, h1, _⟩ := h
  exact ⟨id, h1⟩
theorem APost.mono {B : Nat} {w : World} {p mb : Nat} {most : Int} {L : List Ent} {t u : List Int} {D E : Int → Nat → Prop} {e : Ending} {w' : World} (h : APost B w p mb most L t D e w') (ht : t = u) (hD : ∀ d k, D d k → E d k) : APost B w p mb most L u E e w' := by
  obtain ⟨L', id, d, k, h1, h2, h3, h4, h5, h6⟩ := h
  subst ht
  exact ⟨L', id, d, k, h1, h2, h3, h4, h5, hD d k h6⟩
theorem APost.before {B : Nat} {w w1 : World} {p mb : Nat} {most : Int} {L : List Ent} {t : List Int} {D : Int → Nat → Prop} {e : Ending} {w' : World} (h0 : Fr0 w w1) (h : APost B w1 p mb most L t D e w') : APost B w p mb most L t D e w' := by
  obtain ⟨L', id, d, k, h1, h2, h3, h4, h5, h6⟩ := h
  exact ⟨L', id, d, k, h1, h2, (Kp.of0 h0).trans h3, h4, h5, h6⟩
/-- Behind a call that made rules. -/
theorem APost.next {B : Nat} {w w1 : World} {p mb : Nat} {most : Int} {L L1 : List Ent} {k1 : Nat} {t : List Int} {D E : Int → Nat → Prop} {e : Ending} {w' : World} (hK : Kp B mb w w1) (hg : Grows L L1 k1) (h : APost B w1 p mb most L1 t D e w') (hD : ∀ d k, D d k → E d (k1 + k)) : APost B w p mb most L t E e w' := by
  obtain ⟨L', id, d, k, h1, h2, h3, h4, h5, h6⟩ := h
  exact ⟨L', id, d, k1 + k, h1, h2, hK.trans h3, hg.trans h4 (Nat.le_refl _), h5, hD d k h6⟩

theorem avl_pair {B : Nat} {w : World} {p mb : Nat} {most : Int} {L : List Ent} (hR : Room B w p mb most L 1) {a b : Int} {s t : List Int} {da db : Int} (ha : Bal L a s da) (hb : Bal L b t db) (h1 : -1 ≤ da - db) (h2 : da - db ≤ 1) (hl : (s.length : Int) + t.length ≤ 1152921504606846976) :
    Calls Tryz.prog 57 #[.pointer (some ⟨p, 0, none⟩), .int .i64 a, .int .i64 b] w (APost B w p mb most L (s ++ t) (fun d k => d = 1 + max da db ∧ k ≤ 1)) := by
  have la := bal_len hR.dok hR.sok a.toNat a (Nat.le_refl _) ha.known ha.even
  have lb := bal_len hR.dok hR.sok b.toNat b (Nat.le_refl _) hb.known hb.even
  rw [ha.text] at la
  rw [hb.text] at lb
  have hm := hR.most
  have hbg := hR.big
  obtain ⟨sv, hS, q1, q2, q3⟩ := hR.st
  refine (st_Pair hS hR.sok a b ha.known hb.known ha.ne hb.ne (by omega) (by omega) (by omega)).mono ?_
  rintro e w' ⟨rfl, hst⟩
  obtain ⟨g, bb⟩ := bal_pair hR.sok hR.dok ha hb h1 h2 hl
  obtain ⟨r1, r2⟩ := Sto.step hS q1 q2 q3 hR.base hst
  exact ⟨_, _, _, 1, rfl, r1, r2, g, bb, rfl, Nat.le_refl _⟩

set_option maxRecDepth 100000 in
set_option maxHeartbeats 1000000 in
theorem avl_parts {B : Nat} {w : World} {p mb : Nat} {most : Int} {L : List Ent} (hS : Sto B w p mb most L) (id l r dl dr : Int) (hk : isKnown L id) (h0 : id ≠ 0) (hru : (entAt L id).rule = ⟨2, 0, l, r, 0⟩) (hl : isKnown L l) (hr : isKnown L r) (hdl : (entAt L l).depth = dl) (hdr : (entAt L r).depth = dr) :
    Calls Tryz.prog 143 #[.pointer (some ⟨p, 0, none⟩), .int .i64 id] w fun e w' => e = .returned (.tuple #[.int .i64 l, .int .i64 r, .int .i64 dl, .int .i64 dr, .nilIface]) ∧ Fr0 w w' := by
  have c1 := sto_Rule hS id hk h0
  rw [hru] at c1
  have C1 := Lib.hid c1
  have C2 := Lib.hid (fun W (hW : Fr0 w W) => sto_Depth (hS.kept0 hW) l hl)
  have C3 := Lib.hid (fun W (hW : Fr0 w W) => sto_Depth (hS.kept0 hW) r hr)
  rw [hdl] at C2
  rw [hdr] at C3
  clear c1 hS hru hl hr hdl hdr hk h0
  go_enter Tryz.func143, Tryz.ntmps143
  go_wp2_with fail
  refine C1.out.mono ?_
  rintro e w1 ⟨rfl, hf1⟩
  go_wp2_with fail
  refine (C2.out _ (hf1.alloc _)).mono ?_
  rintro e w2 ⟨rfl, hf2⟩
  obtain ⟨g1, g2⟩ := hf2.cells
  have hs2 := hf2.size'
  simp at hs2
  go_wp2_with fail
  refine (C3.out _ ((hf1.alloc _).trans hf2)).mono ?_
  rintro e w3 ⟨rfl, hf3⟩
  have hr3 := hf3.kept (hf2.kept (b := w1.heap.size) (alloc_at w1 _ _ rfl))
  obtain ⟨r1, r2, r3, r4, r5, lr⟩ := cells5 hr3
  clear g1 g2 hs2 hr3
  go_wp2_with fail
  go_quiet (fail)
  go_wp2_with fail
  exact bodyPost_ret (v := .tuple #[.int .i64 l, .int .i64 r, .int .i64 dl, .int .i64 dr, .nilIface]) (by simp [results, Tryz.results143, go_sem]) rfl ⟨rfl, (((hf1.alloc _).trans hf2).trans hf3).drewN _⟩

set_option maxRecDepth 100000 in
set_option maxHeartbeats 1000000 in
theorem avl_two {B : Nat} {w : World} {p mb : Nat} {most : Int} {L : List Ent} (hR : Room B w p mb most L 2) {a b c : Int} {s t u : List Int} {da db dc : Int} (ha : Bal L a s da) (hb : Bal L b t db) (hc : Bal L c u dc)
    (h1 : -1 ≤ db - dc) (h2 : db - dc ≤ 1) (h3 : -1 ≤ da - (1 + max db dc)) (h4 : da - (1 + max db dc) ≤ 1) (hl : (s.length : Int) + t.length + u.length ≤ 1152921504606846976) :
    Calls Tryz.prog 160 #[.pointer (some ⟨p, 0, none⟩), .int .i64 a, .int .i64 b, .int .i64 c] w (APost B w p mb most L (s ++ (t ++ u)) (fun d k => d = 1 + max da (1 + max db dc) ∧ k ≤ 2)) := by
  have C1 := Lib.hid (avl_pair (hR.less (by omega)) hb hc h1 h2 (by omega))
  have HR := Lib.hid hR
  have HA := Lib.hid ha
  clear hR ha hb hc
  go_enter Tryz.func160, Tryz.ntmps160
  go_wp2_with fail
  refine C1.out.mono ?_
  rintro e w1 ⟨L1, r, d, k, rfl, hS1, hK1, g, bb, hd, hk⟩
  subst hd
  have C2 := Lib.hid (avl_pair (HR.out.next hS1 hK1 g (by omega)) (g.bal HR.out.dok HA.out) bb h3 h4 (by rw [List.length_append]; omega))
  have HK := Lib.hid hK1
  have HG := Lib.hid g
  clear hS1 hK1 g bb C1
  go_wp2_with fail
  refine C2.out.mono ?_
  rintro e w2 hx
  obtain ⟨id, rfl⟩ := hx.ret
  have HX := Lib.hid (APost.next (E := fun d k => d = 1 + max da (1 + max db dc) ∧ k ≤ 2) HK.out HG.out hx (fun d k h => ⟨h.1, by omega⟩))
  clear hx C2
  go_wp2_with fail
  go_ret2
  exact HX.out

set_option maxRecDepth 100000 in
set_option maxHeartbeats 1000000 in
theorem avl_four {B : Nat} {w : World} {p mb : Nat} {most : Int} {L : List Ent} (hR : Room B w p mb most L 3) {a b c d : Int} {s t u v : List Int} {da db dc dd : Int} (ha : Bal L a s da) (hb : Bal L b t db) (hc : Bal L c u dc) (hd : Bal L d v dd)
    (h1 : -1 ≤ da - db) (h2 : da - db ≤ 1) (h3 : -1 ≤ dc - dd) (h4 : dc - dd ≤ 1) (h5 : -1 ≤ (1 + max da db) - (1 + max dc dd)) (h6 : (1 + max da db) - (1 + max dc dd) ≤ 1) (hl : (s.length : Int) + t.length + u.length + v.length ≤ 1152921504606846976) :
    Calls Tryz.prog 161 #[.pointer (some ⟨p, 0, none⟩), .int .i64 a, .int .i64 b, .int .i64 c, .int .i64 d] w (APost B w p mb most L ((s ++ t) ++ (u ++ v)) (fun d k => d = 1 + max (1 + max da db) (1 + max dc dd) ∧ k ≤ 3)) := by
  have C1 := Lib.hid (avl_pair (hR.less (by omega)) ha hb h1 h2 (by omega))
  have HR := Lib.hid hR
  have HC := Lib.hid hc
  have HD := Lib.hid hd
  clear hR ha hb hc hd
  go_enter Tryz.func161, Tryz.ntmps161
  go_wp2_with fail
  refine C1.out.mono ?_
  rintro e w1 ⟨L1, r, dr, k, rfl, hS1, hK1, g, bb, hdr, hk⟩
  subst hdr
  have C2 := Lib.hid (avl_two (HR.out.next hS1 hK1 g (by omega)) bb (g.bal HR.out.dok HC.out) (g.bal HR.out.dok HD.out) h3 h4 h5 h6 (by rw [List.length_append]; omega))
  have HK := Lib.hid hK1
  have HG := Lib.hid g
  clear hS1 hK1 g bb C1
  go_wp2_with fail
  refine C2.out.mono ?_
  rintro e w2 hx
  obtain ⟨id, rfl⟩ := hx.ret
  have HX := Lib.hid (APost.next (E := fun d k => d = 1 + max (1 + max da db) (1 + max dc dd) ∧ k ≤ 3) HK.out HG.out hx (fun d k h => ⟨h.1, by omega⟩))
  clear hx C2
  go_wp2_with fail
  go_ret2
  exact HX.out

end Go.Proofs.YtclpndigmidjkaaGreat

/- The walks of avl.level, avl.join and avl.Join. -/
import Derived.Test.YtodmpcnpedpheaaGreatDoorRSt5
import Derived.Deep.LoopGhost
import Derived.Maps.AppendAt
import Derived.Laws.OwnMore
set_option linter.unusedSimpArgs false
set_option linter.unusedVariables false
namespace Go.Proofs.YtodmpcnpedpheaaGreatDoor
open Go.RowKit

theorem Room.depth {B : Nat} {w : World} {p mb : Nat} {most : Int} {L : List Ent} {n : Nat} (h : Room B w p mb most L n) {a : Int} {s : List Int} {d : Int} (ha : Bal L a s d) : 0 ≤ d ∧ d ≤ 1048576 := by
  have := h.sok.at a ha.known
  rw [ha.depth] at this
  have := h.big
  omega

end Go.Proofs.YtodmpcnpedpheaaGreatDoor

/- The walks of avl.join and avl.Join. -/
set_option linter.unusedSimpArgs false
set_option linter.unusedVariables false
namespace Go.Proofs.YtodmpcnpedpheaaGreatDoor
open Go.RowKit

/-- A balanced ID of a text, or 0 for the empty text. -/
structure BalZ (L : List Ent) (id : Int) (t : List Int) (d : Int) : Prop where
  known : isKnown L id
  text : txt L id = t
  even : (entAt L id).even = true
  depth : (entAt L id).depth = d

theorem BalZ.bal {L : List Ent} {id : Int} {t : List Int} {d : Int} (h : BalZ L id t d) (h0 : id ≠ 0) : Bal L id t d := ⟨h.known, h0, h.text, h.even, h.depth⟩
theorem Bal.z {L : List Ent} {id : Int} {t : List Int} {d : Int} (h : Bal L id t d) : BalZ L id t d := ⟨h.known, h.text, h.even, h.depth⟩
theorem BalZ.zero (L : List Ent) : BalZ L 0 [] 0 := ⟨⟨by omega, by omega⟩, rfl, rfl, rfl⟩
theorem BalZ.of0 {L : List Ent} {id : Int} {t : List Int} {d : Int} (h : BalZ L id t d) (h0 : id = 0) : t = [] ∧ d = 0 := by
  subst h0
  exact ⟨h.text.symm, h.depth.symm⟩
theorem BalZ.more {L : List Ent} (h : DOk L) {id : Int} {t : List Int} {d : Int} (hb : BalZ L id t d) (M : List Ent) : BalZ (L ++ M) id t d :=
  ⟨isKnown_append M hb.known, by rw [txt_append h M hb.known]; exact hb.text, by rw [entAt_append L M id hb.known]; exact hb.even, by rw [entAt_append L M id hb.known]; exact hb.depth⟩
theorem Grows.balz {L L' : List Ent} {n : Nat} (h : Grows L L' n) (hd : DOk L) {id : Int} {t : List Int} {d : Int} (hb : BalZ L id t d) : BalZ L' id t d := by
  obtain ⟨M, e⟩ := h.ext
  rw [e]; exact hb.more hd M
theorem BalZ.len {L : List Ent} {id : Int} {t : List Int} {d : Int} (h : BalZ L id t d) (hd : DOk L) (hs : SOk L) : (t.length : Int) = (entAt L id).wt.len := by
  have := bal_len hd hs id.toNat id (Nat.le_refl _) h.known h.even
  rw [h.text] at this; exact this
theorem BalZ.ne {L : List Ent} {id : Int} {t : List Int} {d : Int} (h : BalZ L id t d) (ht : t ≠ []) : id ≠ 0 := fun e => ht (h.of0 e).1
theorem Bal.pos {L : List Ent} {id : Int} {t : List Int} {d : Int} (h : Bal L id t d) (hd : DOk L) (hs : SOk L) : 1 ≤ t.length := by
  have := h.z.len hd hs
  have := (hs.at id h.known).2.2.2 h.ne
  omega

/-- A call that makes a balanced text or 0. -/
def ZPost (B : Nat) (w : World) (p mb : Nat) (most : Int) (L : List Ent) (t : List Int) (D : Int → Nat → Prop) (e : Ending) (w' : World) : Prop :=
  ∃ L' id d k, e = .returned (.tuple #[.int .i64 id, .nilIface]) ∧ Sto B w' p mb most L' ∧ Kp B mb w w' ∧ Grows L L' k ∧ BalZ L' id t d ∧ D d k

theorem APost.z {B : Nat} {w : World} {p mb : Nat} {most : Int} {L : List Ent} {t : List Int} {D : Int → Nat → Prop} {e : Ending} {w' : World} (h : APost B w p mb most L t D e w') : ZPost B w p mb most L t D e w' := by
  obtain ⟨L', id, d, k, h1, h2, h3, h4, h5, h6⟩ := h
  exact ⟨L', id, d, k, h1, h2, h3, h4, h5.z, h6⟩
theorem ZPost.mono {B : Nat} {w : World} {p mb : Nat} {most : Int} {L : List Ent} {t u : List Int} {D E : Int → Nat → Prop} {e : Ending} {w' : World} (h : ZPost B w p mb most L t D e w') (ht : t = u) (hD : ∀ d k, D d k → E d k) : ZPost B w p mb most L u E e w' := by
  obtain ⟨L', id, d, k, h1, h2, h3, h4, h5, h6⟩ := h
  subst ht
  exact ⟨L', id, d, k, h1, h2, h3, h4, h5, hD d k h6⟩
theorem ZPost.before {B : Nat} {w w1 : World} {p mb : Nat} {most : Int} {L : List Ent} {t : List Int} {D : Int → Nat → Prop} {e : Ending} {w' : World} (h0 : Fr0 w w1) (h : ZPost B w1 p mb most L t D e w') : ZPost B w p mb most L t D e w' := by
  obtain ⟨L', id, d, k, h1, h2, h3, h4, h5, h6⟩ := h
  exact ⟨L', id, d, k, h1, h2, (Kp.of0 h0).trans h3, h4, h5, h6⟩
theorem ZPost.next {B : Nat} {w w1 : World} {p mb : Nat} {most : Int} {L L1 : List Ent} {k1 : Nat} {t : List Int} {D E : Int → Nat → Prop} {e : Ending} {w' : World} (hK : Kp B mb w w1) (hg : Grows L L1 k1) (h : ZPost B w1 p mb most L1 t D e w') (hD : ∀ d k, D d k → E d (k1 + k)) : ZPost B w p mb most L t E e w' := by
  obtain ⟨L', id, d, k, h1, h2, h3, h4, h5, h6⟩ := h
  exact ⟨L', id, d, k1 + k, h1, h2, hK.trans h3, hg.trans h4 (Nat.le_refl _), h5, hD d k h6⟩
/-- Nothing was made: an ID of the store. -/
theorem ZPost.same {B : Nat} {w w' : World} {p mb : Nat} {most : Int} {L : List Ent} {n : Nat} (hR : Room B w p mb most L n) (hf : Fr0 w w') {id : Int} {t : List Int} {d : Int} (hb : BalZ L id t d) {D : Int → Nat → Prop} (hD : D d 0) : ZPost B w p mb most L t D (.returned (.tuple #[.int .i64 id, .nilIface])) w' :=
  ⟨L, id, d, 0, rfl, hR.st.kept0 hf, Kp.of0 hf, Grows.refl hR.sok hR.dok, hb, hD⟩

end Go.Proofs.YtodmpcnpedpheaaGreatDoor

/- The walks of split.size, check, front and rest. -/
set_option linter.unusedSimpArgs false
set_option linter.unusedVariables false
namespace Go.Proofs.YtodmpcnpedpheaaGreatDoor
open Go.RowKit

theorem sto_Balanced {B : Nat} {w : World} {p mb : Nat} {most : Int} {L : List Ent} (h : Sto B w p mb most L) (id : Int) (hk : isKnown L id) (b : Bool) (hb : (entAt L id).even = b) :
    Calls Tryz.prog 66 #[.pointer (some ⟨p, 0, none⟩), .int .i64 id] w fun e w' => e = .returned (.tuple #[.bool b, .nilIface]) ∧ Fr0 w w' := by
  obtain ⟨sv, hS, _⟩ := h
  subst hb
  exact avl_Balanced hS id hk

theorem bal_one {L : List Ent} (hd : DOk L) (hs : SOk L) {id : Int} {t : List Int} {d : Int} (h : Bal L id t d) (h0 : d = 0) : t.length = 1 := by
  subst h0
  have hk := h.known
  have hbk := hk.2
  rcases hd.at id hk h.ne with ⟨k1, k2⟩ | ⟨k1, k2, k3⟩ | ⟨k1, k2, k3⟩
  · rw [← h.text, txt_letter hk h.ne k1]; rfl
  · have hdep := h.depth
    rw [k3] at hdep
    have hdep' : 1 + max (entAt L (entAt L id).rule.left).depth (entAt L (entAt L id).rule.right).depth = 0 := hdep
    have := (hs.at (entAt L id).rule.left ⟨by omega, by omega⟩).2.1
    omega
  · have he := h.even
    rw [k3] at he
    cases he

theorem Bal.le {L : List Ent} {id : Int} {t : List Int} {d : Int} (h : Bal L id t d) (hd : DOk L) (hs : SOk L) : (t.length : Int) ≤ 1152921504606846976 := by
  have := h.z.len hd hs
  have := (hs.at id h.known).1.len1
  omega

theorem take_left (a b : List Int) (m : Int) (h : m ≤ a.length) : (a ++ b).take m.toNat = a.take m.toNat := List.take_append_of_le_length (by omega)
end Go.Proofs.YtodmpcnpedpheaaGreatDoor

/- The walks of split.section, Section and Split. -/
set_option linter.unusedSimpArgs false
set_option linter.unusedVariables false
namespace Go.Proofs.YtodmpcnpedpheaaGreatDoor
open Go.RowKit

/-- A range of a text. -/
def cutL (t : List Int) (f n : Int) : List Int := (t.drop f.toNat).take n.toNat

theorem cut_len {t : List Int} {f n : Int} (h0 : 0 ≤ f) (h1 : 0 ≤ n) (h2 : f + n ≤ t.length) : ((cutL t f n).length : Int) = n := by
  unfold cutL
  rw [List.length_take, List.length_drop]
  omega
end Go.Proofs.YtodmpcnpedpheaaGreatDoor

/- Slices of integers and IDs in memory: reading, and append. -/
set_option linter.unusedSimpArgs false
set_option linter.unusedVariables false
namespace Go.Proofs.YtodmpcnpedpheaaGreatDoor
open Go.RowKit

/-- ST is the type of slices of T, an element has so many cells and bytes. -/
def RT (ST T : TypeId) (size bytes : Nat) : Prop :=
  0 < size ∧ ∃ (i : TypeInfo) (z : Value), Tryz.prog.underlying ST = some (.slice T) ∧ Tryz.prog.info? T = some i ∧ i.zero = some z ∧ i.size = size ∧ i.bytes = bytes ∧ z.cells.size = size

theorem info_id : (Tryz.prog.info? 38).map (fun i => (i.zero, i.size, i.bytes)) = some (some (.int .i64 0), 1, 8) := by kernel_rfl
theorem info_int : (Tryz.prog.info? 3).map (fun i => (i.zero, i.size, i.bytes)) = some (some (.int .i64 0), 1, 8) := by kernel_rfl

theorem rt_id : RT 29 38 1 8 := by
  obtain ⟨i, h1, h2, h3, h4⟩ := info_parts info_id
  exact ⟨by omega, i, _, Tryz.underlying29, h1, h2, h3, h4, rfl⟩
theorem rt_int : RT 33 3 1 8 := by
  obtain ⟨i, h1, h2, h3, h4⟩ := info_parts info_int
  exact ⟨by omega, i, _, Tryz.underlying33, h1, h2, h3, h4, rfl⟩

theorem owns_form {w : World} {base : Nat} {e : TypeId} {size n : Nat} {v : Value} {xs : List Value} (h : w.ownsRow base e size v n xs) : ∃ a cap, v = .slice a n cap := by
  rcases h.2 with ⟨h1, h2⟩ | ⟨g, cap, cur, h1, _⟩
  · exact ⟨none, 0, by rw [h1, h2]⟩
  · exact ⟨_, cap, h1⟩

/-- What is appended: cells that can be read. -/
def SrcAt (w : World) (src : Value) (m : Nat) (news : List Value) : Prop := (src = .slice none 0 0 ∧ m = 0 ∧ news = []) ∨ ∃ ad c, src = .slice (some ad) m c ∧ ∀ j u, news[j]? = some u → w.cell? (ad.add j) = some u

theorem run_append_rt {ST T : TypeId} {size bytes : Nat} (hT : RT ST T size bytes) (w : World) (ty : TypeId) (B : Nat) (v : Value) (n : Nat) (xs : List Value) (hown : w.ownsRow B T size v n xs) (src : Value) (m : Nat) (news : List Value) (hsrc : SrcAt w src m news)
    (hl : news.length = m * size) (h1 : ∀ u ∈ news, u.oneCell' = true) (h63 : n + m ≤ maxLen) (hb : (n + m) * bytes ≤ 140737488355328) (hB : B ≤ w.heap.size) :
    ∃ v' w', (Builtin.append_ #[ST, ST] ty #[v, src]).run Tryz.prog w = .ok v' w' ∧ w'.ownsRow B T size v' (n + m) (xs ++ news) ∧ w.grownBy w' v.ownBlock ∧ (v'.ownBlock = v.ownBlock ∨ v'.ownBlock = some w.heap.size) := by
  obtain ⟨hp, i, z, hu, hi, hz, hs, hby, hzs⟩ := hT
  rcases hsrc with ⟨rfl, rfl, rfl⟩ | ⟨ad, c, rfl, hc⟩
  · exact ⟨v, w, run_append_owned_none (P := Tryz.prog) (w := w) B _ ty _ i size hu hi v _ _ hown, by simpa using hown, World.grownBy.refl w _, .inl rfl⟩
  · obtain ⟨v', w', h1, h2, h3, _, h5⟩ := run_append_own_at (P := Tryz.prog) w B ST ty T i z size bytes hu hi hz hs hby hzs hp v n xs hown ad m c news hl hc h1 h63 hb hB
    exact ⟨v', w', h1, h2, h3, h5⟩

theorem wpList_append_rt {ST T : TypeId} {size bytes : Nat} (hT : RT ST T size bytes) {w : World} {ops : Array Oper} {rest : List Oper} {o : Oper} {a : Act} {Q : Exit → Act → World → Prop} (hgd : o.guard = none) (s x : Operand)
    (ho : o.op = .call { callee := .builtin .append, args := #[s, x], argTypes := #[ST, ST] })
    (B : Nat) (v : Value) (n : Nat) (xs : List Value) (hs : a.eval s = v) (hown : w.ownsRow B T size v n xs) (src : Value) (m : Nat) (news : List Value) (hx : a.eval x = src) (hsrc : SrcAt w src m news)
    (hl : news.length = m * size) (h1 : ∀ u ∈ news, u.oneCell' = true) (h63 : n + m ≤ maxLen) (hb : (n + m) * bytes ≤ 140737488355328) (hB : B ≤ w.heap.size)
    (h : ∀ v' w', w'.ownsRow B T size v' (n + m) (xs ++ news) → w.grownBy w' v.ownBlock → (v'.ownBlock = v.ownBlock ∨ v'.ownBlock = some w.heap.size) → wpList Tryz.prog ops Q rest (a.put o.dst v') w') : wpList Tryz.prog ops Q (o :: rest) a w := by
  obtain ⟨v', w', hr, h2, h3, h4⟩ := run_append_rt hT w o.type B v n xs hown src m news hsrc hl h1 h63 hb hB
  refine wpList_plain hgd fun K hK => ?_
  unfold Oper.wp execOp
  simp only [ho, resolve, invoke, builtin, Sem.run_bind, Sem.run_pure, Result.andThen_ok, List.map_toArray, List.map_cons, List.map_nil, hs, hx, hr]
  exact hK _ _ (h v' w' h2 h3 h4)

/-- A slice of integers that the call made (w0: the world at its start). -/
structure OwnI (T : TypeId) (w0 w : World) (v : Value) (xs : List Int) : Prop where
  row : w.ownsRow w0.heap.size T 1 v xs.length (xs.map fun x => Value.int .i64 x)
  fr : Fr0 w0 w

theorem OwnI.nil (T : TypeId) {w0 w : World} (h : Fr0 w0 w) : OwnI T w0 w (.slice none 0 0) [] := ⟨World.ownsRow_nil _ _ _ _, h⟩
theorem OwnI.kept0 {T : TypeId} {w0 w w' : World} {v : Value} {xs : List Int} (h : OwnI T w0 w v xs) (hf : Fr0 w w') : OwnI T w0 w' v xs := ⟨hf.owns h.row, h.fr.trans hf⟩
theorem OwnI.form {T : TypeId} {w0 w : World} {v : Value} {xs : List Int} (h : OwnI T w0 w v xs) : ∃ a cap, v = .slice a xs.length cap := owns_form h.row
theorem OwnI.ge {T : TypeId} {w0 w : World} {v : Value} {xs : List Int} (h : OwnI T w0 w v xs) (k : Nat) (hk : v.ownBlock = some k) : w0.heap.size ≤ k := (h.row.lt k hk).1

theorem src_one (w : World) (x : Value) (T : TypeId) (c : Nat) : SrcAt (w.alloc (.cells #[x] T (0, 0))) (.slice (some ⟨w.heap.size, 0, none⟩) 1 c) 1 [x] := by
  refine .inr ⟨_, c, rfl, fun j u hj => ?_⟩
  have h := World.news_of_block (cs := #[x]) (t := T) (fr := (0, 0)) (heap_alloc_new w (.cells #[x] T (0, 0)))
  exact h j u hj

/-- One integer more. -/
theorem OwnI.push {T : TypeId} {w0 w w1 : World} {v v' : Value} {xs : List Int} {o : Obj} {y : Int} (h : OwnI T w0 w v xs) (h1 : w1.ownsRow w0.heap.size T 1 v' (xs.length + 1) ((xs.map fun x => Value.int .i64 x) ++ [.int .i64 y])) (hg : (w.alloc o).grownBy w1 v.ownBlock) : OwnI T w0 w1 v' (xs ++ [y]) :=
  ⟨by simpa using h1, Fr.grown (Fr0.alloc h.fr o) hg (fun j hj hlt => by have := h.ge j hj; omega)⟩

theorem wpList_push {ST T : TypeId} (hT : RT ST T 1 8) {w0 w : World} {ops : Array Oper} {rest : List Oper} {o : Oper} {a : Act} {Q : Exit → Act → World → Prop} (hgd : o.guard = none) (s x : Operand)
    (ho : o.op = .call { callee := .builtin .append, args := #[s, x], argTypes := #[ST, ST] })
    (v : Value) (xs : List Int) (hs : a.eval s = v) (hown : OwnI T w0 w v xs) (T' : TypeId) (y : Int) (c H : Nat) (hH : w.heap.size = H) (hx : a.eval x = .slice (some ⟨H, 0, none⟩) 1 c) (hlen : xs.length ≤ 1000000)
    (h : ∀ v' w', OwnI T w0 w' v' (xs ++ [y]) → (w.alloc (.cells #[.int .i64 y] T' (0, 0))).grownBy w' v.ownBlock → (v'.ownBlock = v.ownBlock ∨ v'.ownBlock = some (w.heap.size + 1)) → wpList Tryz.prog ops Q rest (a.put o.dst v') w') :
    wpList Tryz.prog ops Q (o :: rest) a (w.alloc (.cells #[.int .i64 y] T' (0, 0))) := by
  subst hH
  have hsz := hown.fr.size
  refine wpList_append_rt hT hgd s x ho w0.heap.size v xs.length _ hs (hown.row.alloc _) _ 1 [.int .i64 y] hx (src_one w _ T' c) rfl (by simp [Value.oneCell']) (by unfold maxLen; omega) (by omega) (by simp; omega) ?_
  intro v' w' h1 h2 h3
  exact h v' w' (hown.push h1 h2) h2 (by simpa using h3)

/-- Integers that can be read at an address (if there are any), in no block of a store. -/
def IntsAt (w : World) (a : Option Addr) (xs : List Int) : Prop :=
  ∀ i (h : i < xs.length), ∃ b off cs t fr, a = some ⟨b, off, none⟩ ∧ w.heap[b]? = some (Obj.cells cs t fr) ∧ t ≠ 77 ∧ t ≠ 129 ∧ cs[off + i]? = some (.int .i64 xs[i])

theorem IntsAt.nil (w : World) (a : Option Addr) : IntsAt w a [] := fun i h => by simp at h
theorem IntsAt.kept0 {w w' : World} {a : Option Addr} {xs : List Int} (h : IntsAt w a xs) (hf : Fr0 w w') : IntsAt w' a xs := by
  intro i hi
  obtain ⟨b, off, cs, t, fr, h1, h2, h3⟩ := h i hi
  exact ⟨b, off, cs, t, fr, h1, hf.kept h2, h3⟩
theorem IntsAt.keptK {B mb : Nat} {w w' : World} {a : Option Addr} {xs : List Int} (h : IntsAt w a xs) (hf : Kp B mb w w') : IntsAt w' a xs := by
  intro i hi
  obtain ⟨b, off, cs, t, fr, h1, h2, h3, h4, h5⟩ := h i hi
  exact ⟨b, off, cs, t, fr, h1, hf.cells _ _ _ _ h2 h3 h4, h3, h4, h5⟩
theorem IntsAt.cell {w : World} {a : Option Addr} {xs : List Int} (h : IntsAt w a xs) (i : Nat) (hi : i < xs.length) : ∃ b off, a = some ⟨b, off, none⟩ ∧ b < w.heap.size ∧ w.cell? ⟨b, off + i, none⟩ = some (.int .i64 xs[i]) := by
  obtain ⟨b, off, cs, t, fr, h1, h2, h3, h4, h5⟩ := h i hi
  exact ⟨b, off, h1, lt_of_block h2, by rw [cell_of_block h2]; exact h5⟩
theorem ints_of_own {base : Nat} {T : TypeId} {w : World} {v : Value} {xs : List Int} (h : w.ownsRow base T 1 v xs.length (xs.map fun x => Value.int .i64 x)) (h1 : T ≠ 77) (h2 : T ≠ 129) : ∃ a cap, v = .slice a xs.length cap ∧ IntsAt w a xs := by
  rcases h.2 with ⟨e1, e2⟩ | ⟨g, cap, cur, e1, _, hg, _, _, _, ht⟩
  · have : xs = [] := List.eq_nil_of_length_eq_zero e2
    subst this
    exact ⟨none, 0, e1, IntsAt.nil w none⟩
  · refine ⟨_, cap, e1, fun i hi => ⟨g, 0, cur, T, (0, 0), rfl, hg, h1, h2, ?_⟩⟩
    have := congrArg (fun l => l[i]?) ht
    simp only [Nat.mul_one, List.getElem?_map, List.getElem?_eq_getElem hi, Option.map_some] at this
    rw [List.getElem?_take_of_lt hi] at this
    rw [Nat.zero_add, ← Array.getElem?_toList]
    exact this

theorem ne_of_types {w : World} {a b : Nat} {c1 c2 : Array Value} {t1 t2 : TypeId} {f1 f2 : Nat × Nat} (h1 : w.heap[a]? = some (.cells c1 t1 f1)) (h2 : w.heap[b]? = some (.cells c2 t2 f2)) (ht : t1 ≠ t2) : a ≠ b := by
  rintro rfl
  rw [h1] at h2
  simp at h2
  exact ht h2.2.1

theorem ne_of_map {w : World} {a b : Nat} {es : Array MapEntry} {c : Nat} {c2 : Array Value} {t2 : TypeId} {f2 : Nat × Nat} (h1 : w.heap[a]? = some (.map es c)) (h2 : w.heap[b]? = some (.cells c2 t2 f2)) : a ≠ b := by
  rintro rfl
  rw [h1] at h2
  simp at h2

theorem owns_block {w : World} {base : Nat} {e : TypeId} {size n : Nat} {v : Value} {xs : List Value} (h : w.ownsRow base e size v n xs) {k : Nat} (hk : v.ownBlock = some k) : ∃ cur, w.heap[k]? = some (.cells cur e (0, 0)) := by
  rcases h.2 with ⟨h1, _⟩ | ⟨g, cap, cur, h1, _, hg, _⟩
  · rw [h1] at hk; simp [Value.ownBlock] at hk
  · rw [h1] at hk
    simp [Value.ownBlock] at hk
    subst hk
    exact ⟨cur, hg⟩

/-- A slice of the call's own has grown: the store is as it was. -/
theorem Sto.push {B : Nat} {w w' : World} {p mb : Nat} {most : Int} {L : List Ent} (hS : Sto B w p mb most L) {base : Nat} {T : TypeId} {size n : Nat} {v : Value} {xs : List Value} (ho : w.ownsRow base T size v n xs)
    (h1 : T ≠ 77) (h2 : T ≠ 129) {o : Obj} (hg : (w.alloc o).grownBy w' v.ownBlock) : Sto B w' p mb most L := by
  obtain ⟨sv, hS, q⟩ := hS
  refine ⟨sv, hS.kept (S := fun k => v.ownBlock = some k) (Fr.grown ((Fr.refl _ w).alloc o) hg (fun k hk _ => hk)) ?_ ?_ ?_, q⟩
  · intro h
    obtain ⟨cur, hc⟩ := owns_block ho h
    exact ne_of_types hS.ptr hc (fun e => h1 e.symm) rfl
  · intro h
    obtain ⟨cur, hc⟩ := owns_block ho h
    exact ne_of_map hS.mp hc rfl
  · intro k hk h
    obtain ⟨cur, hc⟩ := owns_block ho h
    obtain ⟨cur2, hc2⟩ := owns_block hS.own hk
    exact ne_of_types hc2 hc (fun e => h2 e.symm) rfl

theorem Kp.grown {B mb : Nat} {w0 w w' : World} {row : Option Nat} (h : Kp B mb w0 w) (hg : w.grownBy w' row) (hr : ∀ k, row = some k → w0.heap.size ≤ k) : Kp B mb w0 w' := by
  have key : ∀ k, k < w0.heap.size → w'.heap[k]? = w.heap[k]? := fun k hk => hg.block k (Nat.lt_of_lt_of_le hk h.size) (fun e => by have := hr k e.symm; omega)
  refine ⟨hg.os.trans h.os, hg.tape.trans h.tape, hg.output.trans h.output, Nat.le_trans h.size hg.size, fun k h1 h2 => (key k h2).trans (h.low k h1 h2), fun k cs t f e n1 n2 => ?_, fun k es n e ne => ?_⟩
  · rw [key k (lt_of_block e)]; exact h.cells k cs t f e n1 n2
  · rw [key k (lt_of_block e)]; exact h.maps k es n e ne

theorem Kp.alloc {B mb : Nat} {w0 w : World} (h : Kp B mb w0 w) (o : Obj) : Kp B mb w0 (w.alloc o) := h.trans (Kp.of0 ((Fr0.refl w).alloc o))

theorem wpList_pushR {ST T : TypeId} (hT : RT ST T 1 8) {w : World} {ops : Array Oper} {rest : List Oper} {o : Oper} {a : Act} {Q : Exit → Act → World → Prop} (hgd : o.guard = none) (s x : Operand)
    (ho : o.op = .call { callee := .builtin .append, args := #[s, x], argTypes := #[ST, ST] })
    (base : Nat) (v : Value) (xs : List Int) (hs : a.eval s = v) (hown : w.ownsRow base T 1 v xs.length (xs.map fun x => Value.int .i64 x)) (hb : base ≤ w.heap.size) (T' : TypeId) (y : Int) (c H : Nat) (hH : w.heap.size = H) (hx : a.eval x = .slice (some ⟨H, 0, none⟩) 1 c) (hlen : xs.length ≤ 1000000)
    (h : ∀ v' w', w'.ownsRow base T 1 v' (xs ++ [y]).length ((xs ++ [y]).map fun x => Value.int .i64 x) → (w.alloc (.cells #[.int .i64 y] T' (0, 0))).grownBy w' v.ownBlock → (v'.ownBlock = v.ownBlock ∨ v'.ownBlock = some (w.heap.size + 1)) → wpList Tryz.prog ops Q rest (a.put o.dst v') w') :
    wpList Tryz.prog ops Q (o :: rest) a (w.alloc (.cells #[.int .i64 y] T' (0, 0))) := by
  subst hH
  refine wpList_append_rt hT hgd s x ho base v xs.length _ hs (hown.alloc _) _ 1 [.int .i64 y] hx (src_one w _ T' c) rfl (by simp [Value.oneCell']) (by unfold maxLen; omega) (by omega) (by simp; omega) ?_
  intro v' w' h1 h2 h3
  exact h v' w' (by simpa using h1) h2 (by simpa using h3)

end Go.Proofs.YtodmpcnpedpheaaGreatDoor

/- Depths and lengths of balanced texts, and the walk of balance.Concat. -/
set_option linter.unusedSimpArgs false
set_option linter.unusedVariables false
namespace Go.Proofs.YtodmpcnpedpheaaGreatDoor
open Go.RowKit

/-- The least length of a balanced text of a depth. -/
def lst : Nat → Nat
  | 0 => 1
  | 1 => 2
  | n + 2 => lst (n + 1) + lst n

theorem lst_pos : ∀ n, 1 ≤ lst n
  | 0 => by simp [lst]
  | 1 => by simp [lst]
  | n + 2 => by have := lst_pos (n + 1); simp only [lst]; omega
theorem lst_step (n : Nat) : lst n ≤ lst (n + 1) := by
  cases n with
  | zero => simp [lst]
  | succ n => simp only [lst]; omega
theorem lst_mono {a b : Nat} (h : a ≤ b) : lst a ≤ lst b := by
  induction b with
  | zero => have : a = 0 := by omega
            subst this; exact Nat.le_refl _
  | succ b ih =>
    by_cases e : a = b + 1
    · subst e; exact Nat.le_refl _
    · exact Nat.le_trans (ih (by omega)) (lst_step b)

theorem bal_lst {L : List Ent} (hd : DOk L) (hs : SOk L) : ∀ (n : Nat) (id : Int) (t : List Int) (d : Int), d.toNat < n → Bal L id t d → lst d.toNat ≤ t.length := by
  intro n
  induction n with
  | zero => intro id t d h; omega
  | succ n ih =>
    intro id t d hn hb
    have d0 : 0 ≤ d := by have := (hs.at id hb.known).2.1; rw [hb.depth] at this; exact this
    by_cases h : d = 0
    · have := bal_one hd hs hb h
      subst h
      rw [this]; exact Nat.le_refl _
    · obtain ⟨l, r, tl, tr, dl, dr, hru, hbl, hbr, hst, hdd, hd1, hd2⟩ := bal_parts hd hb (by omega)
      have dl0 : 0 ≤ dl := by have := (hs.at l hbl.known).2.1; rw [hbl.depth] at this; exact this
      have dr0 : 0 ≤ dr := by have := (hs.at r hbr.known).2.1; rw [hbr.depth] at this; exact this
      have i1 := ih l tl dl (by omega) hbl
      have i2 := ih r tr dr (by omega) hbr
      rw [hst, List.length_append]
      by_cases e : d = 1
      · have := lst_pos dl.toNat
        have := lst_pos dr.toNat
        subst e
        show 2 ≤ _
        omega
      · obtain ⟨m, hm⟩ : ∃ m : Nat, d.toNat = m + 2 := ⟨d.toNat - 2, by omega⟩
        rw [hm]
        simp only [lst]
        have h1 : lst m ≤ lst (min dl dr).toNat := lst_mono (by omega)
        have h2 : lst (m + 1) ≤ lst (max dl dr).toNat := lst_mono (by omega)
        by_cases c : dl ≤ dr
        · rw [show min dl dr = dl by omega] at h1
          rw [show max dl dr = dr by omega] at h2
          omega
        · rw [show min dl dr = dr by omega] at h1
          rw [show max dl dr = dl by omega] at h2
          omega

/-- A text that is shorter than the least one of depth D + 1 has at most depth D. -/
theorem BalZ.deep {L : List Ent} {id : Int} {t : List Int} {d : Int} (h : BalZ L id t d) (hd : DOk L) (hs : SOk L) {D : Nat} (hD : t.length < lst (D + 1)) : 0 ≤ d ∧ d ≤ D := by
  have d0 : 0 ≤ d := by have := (hs.at id h.known).2.1; rw [h.depth] at this; exact this
  refine ⟨d0, ?_⟩
  by_cases e : id = 0
  · have := (h.of0 e).2; omega
  · have h1 := bal_lst hd hs (d.toNat + 1) id t d (by omega) (h.bal e)
    by_cases c : d ≤ D
    · exact c
    · have : lst (D + 1) ≤ lst d.toNat := lst_mono (by omega)
      omega

/-- IDs of texts. -/
def AllB (L : List Ent) : List Int → List (List Int) → Prop
  | [], [] => True
  | id :: ids, t :: ts => (∃ d, BalZ L id t d) ∧ AllB L ids ts
  | _, _ => False

theorem AllB.len {L : List Ent} : ∀ {ids : List Int} {ts : List (List Int)}, AllB L ids ts → ids.length = ts.length
  | [], [], _ => rfl
  | _ :: ids, _ :: ts, h => by simp [AllB.len h.2]
theorem AllB.get {L : List Ent} : ∀ {ids : List Int} {ts : List (List Int)}, AllB L ids ts → ∀ (i : Nat) (h1 : i < ids.length) (h2 : i < ts.length), ∃ d, BalZ L ids[i] ts[i] d
  | _ :: ids, _ :: ts, h, 0, _, _ => h.1
  | _ :: ids, _ :: ts, h, i + 1, h1, h2 => by
    have := AllB.get h.2 i (by simpa using h1) (by simpa using h2)
    simpa using this
theorem AllB.more {L L' : List Ent} {n : Nat} (hg : Grows L L' n) (hd : DOk L) : ∀ {ids : List Int} {ts : List (List Int)}, AllB L ids ts → AllB L' ids ts
  | [], [], _ => trivial
  | _ :: ids, _ :: ts, h => ⟨by obtain ⟨d, hb⟩ := h.1; exact ⟨d, hg.balz hd hb⟩, AllB.more hg hd h.2⟩
theorem AllB.snoc {L : List Ent} : ∀ {ids : List Int} {ts : List (List Int)}, AllB L ids ts → ∀ {id : Int} {t : List Int} {d : Int}, BalZ L id t d → AllB L (ids ++ [id]) (ts ++ [t])
  | [], [], _, _, _, _, hb => ⟨⟨_, hb⟩, trivial⟩
  | _ :: ids, _ :: ts, h, _, _, _, hb => ⟨h.1, AllB.snoc h.2 hb⟩
theorem AllB.append {L : List Ent} : ∀ {ids ids' : List Int} {ts ts' : List (List Int)}, AllB L ids ts → AllB L ids' ts' → AllB L (ids ++ ids') (ts ++ ts')
  | [], _, [], _, _, h' => h'
  | _ :: ids, _, _ :: ts, _, h, h' => ⟨h.1, AllB.append h.2 h'⟩

end Go.Proofs.YtodmpcnpedpheaaGreatDoor

/- Plain words: the texts of powers, the lengths of all texts, and how deep a balanced text can be. No program. -/
set_option linter.unusedSimpArgs false
set_option linter.unusedVariables false
namespace Go.Proofs.YtodmpcnpedpheaaGreatDoor
open Go.RowKit

theorem txt_pow {L : List Ent} (h : DOk L) {id : Int} (hk : isKnown L id) (h0 : id ≠ 0) (h3 : (entAt L id).rule.kind = 3) : txt L id = reps (txt L (entAt L id).rule.left) (entAt L id).rule.times.toNat := by
  obtain ⟨g, hg⟩ : ∃ g : Nat, id.toNat = g + 1 := ⟨id.toNat - 1, by have := hk.1; omega⟩
  rcases h.at id hk h0 with ⟨k1, _⟩ | ⟨k1, k2, _⟩ | ⟨k1, k2, _⟩
  · omega
  · omega
  · unfold txt
    rw [hg]
    simp only [txtF]
    rw [if_neg h0, if_neg (by omega), if_neg (by omega)]
    have hb := hk.2
    rw [txtF_eq h g g _ ⟨by omega, by omega⟩ (by omega) (by omega)]

theorem reps_len (t : List Int) (n : Nat) : (reps t n).length = n * t.length := by
  induction n with
  | zero => simp [reps]
  | succ n ih => simp only [reps, List.length_append, ih, Nat.succ_mul]; omega
theorem reps_succ (t : List Int) (n : Nat) : reps t (n + 1) = t ++ reps t n := rfl
/-- The length of the text of any ID. -/
theorem txt_len {L : List Ent} (hd : DOk L) (hs : SOk L) : ∀ (n : Nat) (id : Int), id.toNat ≤ n → isKnown L id → ((txt L id).length : Int) = (entAt L id).wt.len := by
  intro n
  induction n with
  | zero =>
    intro id h hk
    have h0 : id = 0 := by have := hk.1; omega
    subst h0; rfl
  | succ n ih =>
    intro id h hk
    by_cases h0 : id = 0
    · subst h0; rfl
    · have hb := hk.2
      rcases hd.at id hk h0 with ⟨k1, k3⟩ | ⟨k1, k2, k3⟩ | ⟨k1, k2, k3⟩
      · rw [txt_letter hk h0 k1, k3]
        show (1 : Int) = (Wt.letter _).len
        rw [letter_len]
      · have h1 := ih (entAt L id).rule.left (by omega) ⟨by omega, by omega⟩
        have h2 := ih (entAt L id).rule.right (by omega) ⟨by omega, by omega⟩
        rw [txt_pair hd hk h0 k1, List.length_append]
        have e : (entAt L id).wt.len = (entAt L (entAt L id).rule.left).wt.len + (entAt L (entAt L id).rule.right).wt.len := by
          conv => lhs; rw [k3]
          rfl
        omega
      · have h1 := ih (entAt L id).rule.left (by omega) ⟨by omega, by omega⟩
        have e : (entAt L id).wt.len = (entAt L (entAt L id).rule.left).wt.len * (entAt L id).rule.times := by
          conv => lhs; rw [k3]
          rfl
        have p1 := ((hs.at id hk).2.2.2 h0).1
        have p2 := ((hs.at (entAt L id).rule.left ⟨by omega, by omega⟩).2.2.2 (by omega)).1
        have p3 : 0 ≤ (entAt L id).rule.times := by
          refine Classical.byContradiction fun hn => ?_
          have hm := Int.mul_le_mul_of_nonneg_left (show (entAt L id).rule.times ≤ 0 by omega) (show (0 : Int) ≤ (entAt L (entAt L id).rule.left).wt.len by omega)
          rw [← e, Int.mul_zero] at hm
          omega
        rw [txt_pow hd hk h0 k1, reps_len]
        rw [e, ← h1]
        have e2 : (((entAt L id).rule.times.toNat : Nat) : Int) = (entAt L id).rule.times := by omega
        rw [Int.natCast_mul, e2, Int.mul_comm]

end Go.Proofs.YtodmpcnpedpheaaGreatDoor

/- Levels (plain): what a pair level and a run level leave of a sequence. -/
set_option linter.unusedSimpArgs false
set_option linter.unusedVariables false
namespace Go.Proofs.YtodmpcnpedpheaaGreatDoor
open Go.RowKit

theorem known_more {L : List Ent} {id : Int} (h : isKnown L id) (M : List Ent) : isKnown (L ++ M) id := ⟨h.1, by have := h.2; rw [List.length_append]; omega⟩

/-- A relation between neighbours. -/
def Adj (R : Int → Int → Prop) : List Int → Prop
  | [] => True
  | [_] => True
  | x :: y :: t => R x y ∧ Adj R (y :: t)

theorem Adj.tail {R : Int → Int → Prop} {x : Int} : ∀ {l : List Int}, Adj R (x :: l) → Adj R l
  | [], _ => trivial
  | _ :: _, h => h.2

theorem Adj.imp {R S : Int → Int → Prop} : ∀ {l : List Int}, (∀ x ∈ l, ∀ y ∈ l, R x y → S x y) → Adj R l → Adj S l
  | [], _, _ => trivial
  | [_], _, _ => trivial
  | x :: y :: t, hi, h => ⟨hi x (by simp) y (by simp) h.1, Adj.imp (fun a ha b hb => hi a (by simp [List.mem_cons] at ha ⊢; exact .inr ha) b (by simp [List.mem_cons] at hb ⊢; exact .inr hb)) h.2⟩

/-- The text of a sequence. -/
def txts (L : List Ent) (ids : List Int) : List Int := (ids.map (txt L)).flatten

theorem txts_cons (L : List Ent) (x : Int) (l : List Int) : txts L (x :: l) = txt L x ++ txts L l := by simp [txts]

/-- A sequence ahead of a level. -/
structure SeqI (L : List Ent) (l : Int) (ids : List Int) : Prop where
  kn : ∀ u ∈ ids, isKnown L u ∧ u ≠ 0
  lv : ∀ u ∈ ids, 0 ≤ klev L u ∧ klev L u < l
  nf : Adj (fun u v => ∀ k, max (klev L u) (klev L v) < k → k < l → ¬ fitL k (kkey L u) (kkey L v)) ids
  eq : Adj (fun u v => u = v → l % 2 = 1 ∧ klev L u = l - 1) ids

theorem SeqI.tail {L : List Ent} {l x : Int} {ids : List Int} (h : SeqI L l (x :: ids)) : SeqI L l ids :=
  ⟨fun u hu => h.kn u (List.mem_cons_of_mem _ hu), fun u hu => h.lv u (List.mem_cons_of_mem _ hu), h.nf.tail, h.eq.tail⟩

theorem SeqI.more {L : List Ent} {l : Int} {ids : List Int} (h : SeqI L l ids) (hD : DOk L) {M : List Ent} (hD' : DOk (L ++ M)) : SeqI (L ++ M) l ids := by
  have e : ∀ u ∈ ids, kkey (L ++ M) u = kkey L u ∧ klev (L ++ M) u = klev L u := fun u hu => kl_more hD M hD' _ u (Nat.le_refl _) (h.kn u hu).1 (h.kn u hu).2
  refine ⟨fun u hu => ⟨known_more (h.kn u hu).1 M, (h.kn u hu).2⟩, fun u hu => by rw [(e u hu).2]; exact h.lv u hu, ?_, ?_⟩
  · refine h.nf.imp (fun u hu v hv hr k => ?_)
    rw [(e u hu).1, (e u hu).2, (e v hv).1, (e v hv).2]
    exact hr k
  · refine h.eq.imp (fun u hu v hv hr huv => ?_)
    rw [(e u hu).2]
    exact hr huv

theorem txts_more {L : List Ent} (hD : DOk L) (M : List Ent) {ids : List Int} (h : ∀ u ∈ ids, isKnown L u ∧ u ≠ 0) : txts (L ++ M) ids = txts L ids := by
  unfold txts
  congr 1
  exact List.map_congr_left (fun u hu => txt_append hD M (h u hu).1)

/-- Rules are made; letters stay unique. -/
structure Gu (L L' : List Ent) (n : Nat) : Prop where
  gr : Grows L L' n
  uq : Uq L'

theorem Gu.refl {L : List Ent} (h : SOk L) (d : DOk L) (u : Uq L) : Gu L L 0 := ⟨Grows.refl h d, u⟩
theorem Gu.trans {A B C : List Ent} {m n k : Nat} (h : Gu A B m) (g : Gu B C n) (hk : m + n ≤ k) : Gu A C k := ⟨h.gr.trans g.gr hk, g.uq⟩
theorem Gu.le {A B : List Ent} {m n : Nat} (h : Gu A B m) (hk : m ≤ n) : Gu A B n := ⟨h.gr.le hk, h.uq⟩

/-- A new pair. -/
theorem pair_new {L : List Ent} (hS : SOk L) (hD : DOk L) (hU : Uq L) {x y : Int} (hx : isKnown L x) (hy : isKnown L y) (x0 : x ≠ 0) (y0 : y ≠ 0) (hm : (txt L x).length + (txt L y).length ≤ 1152921504606846976) :
    Gu L (addL L (pairEnt L x y)) 1 ∧ isKnown (addL L (pairEnt L x y)) (addI L (pairEnt L x y)) ∧ addI L (pairEnt L x y) ≠ 0 ∧
    txt (addL L (pairEnt L x y)) (addI L (pairEnt L x y)) = txt L x ++ txt L y ∧ entAt (addL L (pairEnt L x y)) (addI L (pairEnt L x y)) = pairEnt L x y ∧
    (x ≠ y → 0 ≤ klev L x → 0 ≤ klev L y → klev (addL L (pairEnt L x y)) (addI L (pairEnt L x y)) = aftI (max (klev L x) (klev L y)) (kkey L x) (kkey L y)) := by
  have l1 := txt_len hD hS _ x (Nat.le_refl _) hx
  have l2 := txt_len hD hS _ y (Nat.le_refl _) hy
  have s1 := hS.pair x y hx hy x0 y0 (by omega)
  have d1 := hD.pair x y hx hy x0 y0
  have k1 := addI_known L (pairEnt L x y)
  have e1 := ent_pair hD x y
  obtain ⟨M, hM⟩ := addL_ext L (pairEnt L x y)
  have hk : (entAt (addL L (pairEnt L x y)) (addI L (pairEnt L x y))).rule.kind = 2 := by rw [e1]; rfl
  have hl : (entAt (addL L (pairEnt L x y)) (addI L (pairEnt L x y))).rule.left = x := by rw [e1]; rfl
  have hr : (entAt (addL L (pairEnt L x y)) (addI L (pairEnt L x y))).rule.right = y := by rw [e1]; rfl
  refine ⟨⟨⟨⟨M, hM⟩, (addL_len _ _).2, s1, d1⟩, hU.pair x y⟩, k1.1, k1.2, ?_, e1, ?_⟩
  · rw [txt_pair d1 k1.1 k1.2 hk, hl, hr, hM, txt_append hD M hx, txt_append hD M hy]
  · intro hxy a b
    have h1 := (kl_pair d1 k1.1 k1.2 hk).2
    rw [hl, hr] at h1
    have ex : kkey (addL L (pairEnt L x y)) x = kkey L x ∧ klev (addL L (pairEnt L x y)) x = klev L x := by rw [hM] at d1 ⊢; exact kl_more hD M d1 _ x (Nat.le_refl _) hx x0
    have ey : kkey (addL L (pairEnt L x y)) y = kkey L y ∧ klev (addL L (pairEnt L x y)) y = klev L y := by rw [hM] at d1 ⊢; exact kl_more hD M d1 _ y (Nat.le_refl _) hy y0
    rw [h1, ex.1, ex.2, ey.1, ey.2, if_pos ⟨hxy, a, b⟩]

/-- A new power. -/
theorem pow_new {L : List Ent} (hS : SOk L) (hD : DOk L) (hU : Uq L) {x : Int} {k : Nat} (hx : isKnown L x) (x0 : x ≠ 0) (hk2 : 2 ≤ k) (hm : (txt L x).length * k ≤ 1152921504606846976) :
    Gu L (addL L (powEnt L x k)) 1 ∧ isKnown (addL L (powEnt L x k)) (addI L (powEnt L x k)) ∧ addI L (powEnt L x k) ≠ 0 ∧
    txt (addL L (powEnt L x k)) (addI L (powEnt L x k)) = reps (txt L x) k ∧ entAt (addL L (powEnt L x k)) (addI L (powEnt L x k)) = powEnt L x k ∧
    (0 ≤ klev L x → klev L x % 2 = 0 → klev (addL L (powEnt L x k)) (addI L (powEnt L x k)) = klev L x + 1) := by
  have l1 := txt_len hD hS _ x (Nat.le_refl _) hx
  have s1 := hS.pow x k hx x0 (by omega) (by rw [← l1, ← Int.natCast_mul]; omega)
  have d1 := hD.pow x k hx x0
  have k1 := addI_known L (powEnt L x k)
  have e1 := ent_pow hD x k
  obtain ⟨M, hM⟩ := addL_ext L (powEnt L x k)
  have hk : (entAt (addL L (powEnt L x k)) (addI L (powEnt L x k))).rule.kind = 3 := by rw [e1]; rfl
  have hl : (entAt (addL L (powEnt L x k)) (addI L (powEnt L x k))).rule.left = x := by rw [e1]; rfl
  have ht : (entAt (addL L (powEnt L x k)) (addI L (powEnt L x k))).rule.times = (k : Int) := by rw [e1]; rfl
  refine ⟨⟨⟨⟨M, hM⟩, (addL_len _ _).2, s1, d1⟩, hU.pw x k (by omega)⟩, k1.1, k1.2, ?_, e1, ?_⟩
  · rw [txt_pow d1 k1.1 k1.2 hk, hl, ht, hM, txt_append hD M hx]; rfl
  · intro a b
    have h1 := (kl_power d1 k1.1 k1.2 hk).2
    rw [hl] at h1
    have ex : kkey (addL L (powEnt L x k)) x = kkey L x ∧ klev (addL L (powEnt L x k)) x = klev L x := by rw [hM] at d1 ⊢; exact kl_more hD M d1 _ x (Nat.le_refl _) hx x0
    rw [h1, ex.2, if_pos ⟨a, b⟩]

/-- A pair level, on a sequence: pairs are made from the left. -/
def prL (c : Nat) : List Ent → List Int → List Ent × List Int
  | L, [] => (L, [])
  | L, [x] => (L, [x])
  | L, x :: y :: t =>
    if fitB c (kkey L x) (kkey L y) = true then ((prL c (addL L (pairEnt L x y)) t).1, addI L (pairEnt L x y) :: (prL c (addL L (pairEnt L x y)) t).2)
    else ((prL c L (y :: t)).1, x :: (prL c L (y :: t)).2)
termination_by _ l => l.length

/-- What a level leaves. -/
structure Left (L : List Ent) (ids : List Int) (l : Int) (L' : List Ent) (out : List Int) : Prop where
  gu : Gu L L' (ids.length - out.length)
  seq : SeqI L' (l + 1) out
  text : txts L' out = txts L ids
  len : out.length ≤ ids.length

theorem prL_ok {c : Nat} {l : Int} (hl : 2 ≤ l) (hl2 : l % 2 = 0) (hc : c = (l / 2 - 1).toNat % 123) : ∀ (n : Nat) (ids : List Int) (L : List Ent), ids.length ≤ n → SOk L → DOk L → Uq L → SeqI L l ids → (txts L ids).length ≤ 1152921504606846976 →
    Left L ids l (prL c L ids).1 (prL c L ids).2 ∧ (∀ x t, ids = x :: t → ∃ h s, (prL c L ids).2 = h :: s ∧ (h = x ∨ klev (prL c L ids).1 h = l)) := by
  intro n
  induction n with
  | zero =>
    intro ids L hn hS hD hU hI ht
    have : ids = [] := List.eq_nil_of_length_eq_zero (by omega)
    subst this
    rw [prL]
    exact ⟨⟨Gu.refl hS hD hU, ⟨fun u hu => by simp at hu, fun u hu => by simp at hu, trivial, trivial⟩, rfl, by simp⟩, fun x t h => by cases h⟩
  | succ n ih =>
    intro ids L hn hS hD hU hI ht
    match ids, hn, hI, ht with
    | [], hn, hI, ht =>
      rw [prL]
      exact ⟨⟨Gu.refl hS hD hU, ⟨fun u hu => by simp at hu, fun u hu => by simp at hu, trivial, trivial⟩, rfl, by simp⟩, fun x t h => by cases h⟩
    | [x], hn, hI, ht =>
      rw [prL]
      exact ⟨⟨Gu.refl hS hD hU, ⟨hI.kn, fun u hu => ⟨(hI.lv u hu).1, by have := (hI.lv u hu).2; show klev L u < l + 1; omega⟩, trivial, trivial⟩, rfl, by simp⟩, fun x' t h => by
        cases h; exact ⟨_, _, rfl, .inl rfl⟩⟩
    | x :: y :: t, hn, hI, ht =>
      have kx := hI.kn x (by simp)
      have ky := hI.kn y (by simp)
      have lx := hI.lv x (by simp)
      have ly := hI.lv y (by simp)
      have rx := kkey_rng hD kx.1 kx.2
      have ry := kkey_rng hD ky.1 ky.2
      have hne : x ≠ y := fun e => by have := (hI.eq.1 e).1; omega
      rw [txts_cons, txts_cons, List.length_append, List.length_append] at ht
      cases hf : fitB c (kkey L x) (kkey L y) with
      | true =>
        obtain ⟨g1, g2, g3, g4, g5, g6⟩ := pair_new hS hD hU kx.1 ky.1 kx.2 ky.2 (by omega)
        have hlev : klev (addL L (pairEnt L x y)) (addI L (pairEnt L x y)) = l := by
          rw [g6 hne lx.1 ly.1]
          exact aftI_eq (by omega) rx.1 rx.2 ry.1 ry.2 (by omega) ⟨hl, hl2, by rw [← hc]; exact hf⟩ (fun k k1 k2 => hI.nf.1 k k1 k2)
        rw [prL, if_pos hf]
        generalize addI L (pairEnt L x y) = i at *
        generalize addL L (pairEnt L x y) = L1 at *
        obtain ⟨M, hM⟩ := g1.gr.ext
        have hI1 : SeqI L1 l t := by
          have := g1.gr.dok
          rw [hM] at this ⊢
          exact hI.tail.tail.more hD this
        have ht1 : txts L1 t = txts L t := by rw [hM]; exact txts_more hD M hI.tail.tail.kn
        obtain ⟨q, qh⟩ := ih t L1 (by simp at hn; omega) g1.gr.sok g1.gr.dok g1.uq hI1 (by rw [ht1]; omega)
        have hq := q.len
        obtain ⟨N, hN⟩ := q.gu.gr.ext
        have hi : kkey (prL c L1 t).1 i = kkey L1 i ∧ klev (prL c L1 t).1 i = klev L1 i := by
          have := q.gu.gr.dok
          rw [hN] at this ⊢
          exact kl_more g1.gr.dok N this _ i (Nat.le_refl _) g2 g3
        have hti : txt (prL c L1 t).1 i = txt L x ++ txt L y := by rw [hN, txt_append g1.gr.dok N g2, g4]
        have hki : isKnown (prL c L1 t).1 i := by rw [hN]; exact known_more g2 N
        refine ⟨⟨g1.trans q.gu (by simp only [List.length_cons]; omega), ⟨?_, ?_, ?_, ?_⟩, ?_, by simp only [List.length_cons]; omega⟩, fun x' t' h => ?_⟩
        · intro u hu
          rcases List.mem_cons.1 hu with e | hu
          · rw [e]; exact ⟨hki, g3⟩
          · exact q.seq.kn u hu
        · intro u hu
          rcases List.mem_cons.1 hu with e | hu
          · rw [e, hi.2, hlev]; omega
          · exact q.seq.lv u hu
        · cases hout : (prL c L1 t).2 with
          | nil => trivial
          | cons h s =>
            refine ⟨fun k k1 k2 => ?_, by have := q.seq.nf; rwa [hout] at this⟩
            rw [hi.2, hlev] at k1
            omega
        · cases hout : (prL c L1 t).2 with
          | nil => trivial
          | cons h s => exact ⟨fun e => ⟨by omega, by rw [hi.2, hlev]; omega⟩, by have := q.seq.eq; rwa [hout] at this⟩
        · rw [txts_cons, hti, q.text, ht1, txts_cons, txts_cons, List.append_assoc]
        · exact ⟨i, _, rfl, .inr (hi.2.trans hlev)⟩
      | false =>
        rw [prL, if_neg (by rw [hf]; decide)]
        obtain ⟨q, qh⟩ := ih (y :: t) L (by simp at hn ⊢; omega) hS hD hU hI.tail (by rw [txts_cons, List.length_append]; omega)
        obtain ⟨h, s, hout, hh⟩ := qh y t rfl
        obtain ⟨N, hN⟩ := q.gu.gr.ext
        have hx' : kkey (prL c L (y :: t)).1 x = kkey L x ∧ klev (prL c L (y :: t)).1 x = klev L x := by
          have := q.gu.gr.dok
          rw [hN] at this ⊢
          exact kl_more hD N this _ x (Nat.le_refl _) kx.1 kx.2
        have hy' : kkey (prL c L (y :: t)).1 y = kkey L y ∧ klev (prL c L (y :: t)).1 y = klev L y := by
          have := q.gu.gr.dok
          rw [hN] at this ⊢
          exact kl_more hD N this _ y (Nat.le_refl _) ky.1 ky.2
        have htx : txt (prL c L (y :: t)).1 x = txt L x := by rw [hN]; exact txt_append hD N kx.1
        have hkx : isKnown (prL c L (y :: t)).1 x := by rw [hN]; exact known_more kx.1 N
        have hql := q.len
        refine ⟨⟨q.gu.le (by simp only [List.length_cons] at hql ⊢; omega), ⟨?_, ?_, ?_, ?_⟩, ?_, by simp only [List.length_cons] at hql ⊢; omega⟩, fun x' t' e => ⟨x, _, rfl, .inl (by cases e; rfl)⟩⟩
        · intro u hu
          rcases List.mem_cons.1 hu with e | hu
          · rw [e]; exact ⟨hkx, kx.2⟩
          · exact q.seq.kn u hu
        · intro u hu
          rcases List.mem_cons.1 hu with e | hu
          · rw [e, hx'.2]; omega
          · exact q.seq.lv u hu
        · have hs := q.seq.nf
          rw [hout] at hs ⊢
          refine ⟨fun k k1 k2 => ?_, hs⟩
          rcases hh with hh | hh
          · rw [hh] at k1 ⊢
            rw [hx'.2, hy'.2] at k1
            rw [hx'.1, hy'.1]
            by_cases e : k = l
            · rintro ⟨_, _, k5⟩
              rw [e, ← hc, hf] at k5
              cases k5
            · exact hI.nf.1 k k1 (by omega)
          · rw [hh] at k1
            omega
        · have hs := q.seq.eq
          rw [hout] at hs ⊢
          refine ⟨fun e => ?_, hs⟩
          exfalso
          rcases hh with hh | hh
          · exact hne (e.trans hh)
          · rw [← e, hx'.2] at hh
            omega
        · rw [txts_cons, htx, q.text, ← txts_cons]

/-- Nothing made: nothing changed, and no neighbours fit. -/
theorem prL_same {c : Nat} : ∀ (n : Nat) (ids : List Int) (L : List Ent), ids.length ≤ n → (prL c L ids).2.length ≤ ids.length ∧
    ((prL c L ids).2.length = ids.length → prL c L ids = (L, ids) ∧ Adj (fun u v => fitB c (kkey L u) (kkey L v) = false) ids) := by
  intro n
  induction n with
  | zero =>
    intro ids L hn
    have : ids = [] := List.eq_nil_of_length_eq_zero (by omega)
    subst this
    rw [prL]
    exact ⟨Nat.le_refl _, fun _ => ⟨rfl, trivial⟩⟩
  | succ n ih =>
    intro ids L hn
    match ids, hn with
    | [], hn => rw [prL]; exact ⟨Nat.le_refl _, fun _ => ⟨rfl, trivial⟩⟩
    | [x], hn => rw [prL]; exact ⟨Nat.le_refl _, fun _ => ⟨rfl, trivial⟩⟩
    | x :: y :: t, hn =>
      cases hf : fitB c (kkey L x) (kkey L y) with
      | true =>
        rw [prL, if_pos hf]
        have := (ih t (addL L (pairEnt L x y)) (by simp at hn; omega)).1
        simp only [List.length_cons]
        exact ⟨by omega, fun h => by omega⟩
      | false =>
        rw [prL, if_neg (by rw [hf]; decide)]
        have := ih (y :: t) L (by simp at hn ⊢; omega)
        simp only [List.length_cons] at this ⊢
        refine ⟨by omega, fun h => ?_⟩
        obtain ⟨k1, k2⟩ := this.2 (by omega)
        rw [k1]
        exact ⟨rfl, hf, k2⟩

/-- The maximal runs. -/
def rle : List Int → List (Int × Nat)
  | [] => []
  | x :: l => match rle l with
    | [] => [(x, 1)]
    | (y, k) :: g => if x = y then (y, k + 1) :: g else (x, 1) :: (y, k) :: g

/-- A run level, on the runs of a sequence. -/
def rnL : List Ent → List (Int × Nat) → List Ent × List Int
  | L, [] => (L, [])
  | L, (x, k) :: g =>
    if 1 < k then ((rnL (addL L (powEnt L x k)) g).1, addI L (powEnt L x k) :: (rnL (addL L (powEnt L x k)) g).2)
    else ((rnL L g).1, x :: (rnL L g).2)

/-- The sequence of runs. -/
def unr (g : List (Int × Nat)) : List Int := (g.map fun p => List.replicate p.2 p.1).flatten

theorem unr_cons (x : Int) (k : Nat) (g : List (Int × Nat)) : unr ((x, k) :: g) = List.replicate k x ++ unr g := by simp [unr]

/-- Runs: none is empty, neighbours differ. -/
def RunsOk : List (Int × Nat) → Prop
  | [] => True
  | [p] => 1 ≤ p.2
  | p :: q :: g => 1 ≤ p.2 ∧ p.1 ≠ q.1 ∧ RunsOk (q :: g)

theorem RunsOk.tail {p : Int × Nat} : ∀ {g : List (Int × Nat)}, RunsOk (p :: g) → RunsOk g
  | [], _ => trivial
  | _ :: _, h => h.2.2
theorem RunsOk.pos {p : Int × Nat} : ∀ {g : List (Int × Nat)}, RunsOk (p :: g) → 1 ≤ p.2
  | [], h => h
  | _ :: _, h => h.1

theorem rle_ok : ∀ l : List Int, RunsOk (rle l) ∧ unr (rle l) = l ∧ (rle l).length ≤ l.length ∧ ((rle l).length = l.length → ∀ p ∈ rle l, p.2 = 1)
  | [] => ⟨trivial, rfl, Nat.le_refl _, fun _ p hp => by simp [rle] at hp⟩
  | x :: l => by
    obtain ⟨h1, h2, h3, h4⟩ := rle_ok l
    unfold rle
    cases hr : rle l with
    | nil =>
      rw [hr] at h2
      have hl : l = [] := by rw [← h2]; rfl
      subst hl
      exact ⟨Nat.le_refl _, rfl, Nat.le_refl _, fun _ p hp => by simp at hp; rw [hp]⟩
    | cons q g =>
      obtain ⟨y, k⟩ := q
      rw [hr] at h1 h2 h3 h4
      dsimp only
      by_cases c : x = y
      · rw [if_pos c]
        refine ⟨?_, ?_, ?_, ?_⟩
        · cases g with
          | nil => show 1 ≤ k + 1; omega
          | cons q' g' => exact ⟨by show 1 ≤ k + 1; omega, h1.2.1, h1.2.2⟩
        · rw [unr_cons, List.replicate_succ, List.cons_append, ← unr_cons, h2, c]
        · simp only [List.length_cons] at h3 ⊢; omega
        · intro h; simp only [List.length_cons] at h3 h; omega
      · rw [if_neg c]
        refine ⟨⟨Nat.le_refl _, c, h1⟩, ?_, ?_, ?_⟩
        · rw [unr_cons, h2]; rfl
        · simp only [List.length_cons] at h3 ⊢; omega
        · intro h p hp
          rcases List.mem_cons.1 hp with e | hp
          · rw [e]
          · exact h4 (by simp only [List.length_cons] at h ⊢; omega) p hp

theorem reps_replicate (a : List Int) : ∀ k : Nat, reps a k = (List.replicate k a).flatten
  | 0 => rfl
  | k + 1 => by rw [List.replicate_succ, List.flatten_cons, ← reps_replicate a k]; rfl

theorem txts_append (L : List Ent) (a b : List Int) : txts L (a ++ b) = txts L a ++ txts L b := by simp [txts]

theorem txts_replicate (L : List Ent) (x : Int) (k : Nat) : txts L (List.replicate k x) = reps (txt L x) k := by
  rw [reps_replicate]; unfold txts; rw [List.map_replicate]

theorem SeqI.drop {L : List Ent} {l x : Int} {ids : List Int} : ∀ {k : Nat}, SeqI L l (List.replicate k x ++ ids) → SeqI L l ids
  | 0, h => h
  | k + 1, h => SeqI.drop (k := k) (by rw [List.replicate_succ, List.cons_append] at h; exact h.tail)

theorem rnL_ok {l : Int} (hl : 1 ≤ l) (hl2 : l % 2 = 1) : ∀ (g : List (Int × Nat)) (L : List Ent), RunsOk g → SOk L → DOk L → Uq L → SeqI L l (unr g) → (txts L (unr g)).length ≤ 1152921504606846976 →
    Left L (unr g) l (rnL L g).1 (rnL L g).2 ∧ (rnL L g).2.length = g.length ∧
    (∀ x k t, g = (x, k) :: t → ∃ h s, (rnL L g).2 = h :: s ∧ ((h = x ∧ k = 1) ∨ (klev (rnL L g).1 h = l ∧ (entAt (rnL L g).1 h).rule.kind = 3 ∧ (entAt (rnL L g).1 h).rule.left = x))) := by
  intro g
  induction g with
  | nil =>
    intro L _ hS hD hU hI ht
    exact ⟨⟨Gu.refl hS hD hU, ⟨fun u hu => by simp [rnL] at hu, fun u hu => by simp [rnL] at hu, trivial, trivial⟩, rfl, by simp [rnL]⟩, rfl, fun x k t h => by cases h⟩
  | cons p g ih =>
    obtain ⟨x, k⟩ := p
    intro L hr hS hD hU hI ht
    have hk1 : 1 ≤ k := hr.pos
    have hmem : x ∈ unr ((x, k) :: g) := by
      rw [unr_cons]; exact List.mem_append_left _ (List.mem_replicate.2 ⟨by omega, rfl⟩)
    have kx := hI.kn x hmem
    have lx := hI.lv x hmem
    have hIg : SeqI L l (unr g) := by rw [unr_cons] at hI; exact hI.drop
    rw [unr_cons, txts_append, txts_replicate, List.length_append, reps_len] at ht
    by_cases c : 1 < k
    · -- a new power
      have hxl : klev L x = l - 1 := by
        obtain ⟨k', rfl⟩ : ∃ k', k = k' + 2 := ⟨k - 2, by omega⟩
        have he := hI.eq
        rw [unr_cons, List.replicate_succ, List.replicate_succ] at he
        exact (he.1 rfl).2
      obtain ⟨g1, g2, g3, g4, g5, g6⟩ := pow_new hS hD hU kx.1 kx.2 (by omega : 2 ≤ k) (by rw [Nat.mul_comm]; exact Nat.le_trans (Nat.le_add_right _ _) ht)
      have hlev : klev (addL L (powEnt L x k)) (addI L (powEnt L x k)) = l := by rw [g6 lx.1 (by omega)]; omega
      have hkind : (entAt (addL L (powEnt L x k)) (addI L (powEnt L x k))).rule.kind = 3 ∧ (entAt (addL L (powEnt L x k)) (addI L (powEnt L x k))).rule.left = x := by rw [g5]; exact ⟨rfl, rfl⟩
      rw [rnL, if_pos c]
      generalize addI L (powEnt L x k) = i at *
      generalize addL L (powEnt L x k) = L1 at *
      obtain ⟨M, hM⟩ := g1.gr.ext
      have hI1 : SeqI L1 l (unr g) := by
        have := g1.gr.dok
        rw [hM] at this ⊢
        exact hIg.more hD this
      have ht1 : txts L1 (unr g) = txts L (unr g) := by rw [hM]; exact txts_more hD M hIg.kn
      obtain ⟨q, ql, qh⟩ := ih L1 hr.tail g1.gr.sok g1.gr.dok g1.uq hI1 (by rw [ht1]; omega)
      have hq := q.len
      obtain ⟨N, hN⟩ := q.gu.gr.ext
      have hi : kkey (rnL L1 g).1 i = kkey L1 i ∧ klev (rnL L1 g).1 i = klev L1 i := by
        have := q.gu.gr.dok
        rw [hN] at this ⊢
        exact kl_more g1.gr.dok N this _ i (Nat.le_refl _) g2 g3
      have hent : entAt (rnL L1 g).1 i = entAt L1 i := by rw [hN]; exact entAt_append L1 N i g2
      have hti : txt (rnL L1 g).1 i = reps (txt L x) k := by rw [hN, txt_append g1.gr.dok N g2, g4]
      have hki : isKnown (rnL L1 g).1 i := by rw [hN]; exact known_more g2 N
      refine ⟨⟨g1.trans q.gu (by rw [unr_cons]; simp only [List.length_append, List.length_replicate, List.length_cons]; omega), ⟨?_, ?_, ?_, ?_⟩, ?_, by rw [unr_cons]; simp only [List.length_append, List.length_replicate, List.length_cons]; omega⟩, by simp only [List.length_cons, ql], fun x' k' t' e => ?_⟩
      · intro u hu
        rcases List.mem_cons.1 hu with e | hu
        · rw [e]; exact ⟨hki, g3⟩
        · exact q.seq.kn u hu
      · intro u hu
        rcases List.mem_cons.1 hu with e | hu
        · rw [e, hi.2, hlev]; omega
        · exact q.seq.lv u hu
      · cases hout : (rnL L1 g).2 with
        | nil => trivial
        | cons h s =>
          refine ⟨fun k k1 k2 => ?_, by have := q.seq.nf; rwa [hout] at this⟩
          rw [hi.2, hlev] at k1
          omega
      · cases hg : g with
        | nil => simp [rnL]; trivial
        | cons p' g' =>
          obtain ⟨x2, k2⟩ := p'
          obtain ⟨h, s, hout, hh⟩ := qh x2 k2 g' hg
          rw [hg] at hout hh hent hi
          rw [hout]
          have hs := q.seq.eq
          rw [hg, hout] at hs
          refine ⟨fun e => ?_, hs⟩
          exfalso
          have hx2 : x ≠ x2 := by rw [hg] at hr; exact hr.2.1
          have hk2 := hIg.lv x2 (by rw [hg, unr_cons]; exact List.mem_append_left _ (List.mem_replicate.2 ⟨by have := hr.tail; rw [hg] at this; have := this.pos; omega, rfl⟩))
          have hk2' := hI1.lv x2 (by rw [hg, unr_cons]; exact List.mem_append_left _ (List.mem_replicate.2 ⟨by have := hr.tail; rw [hg] at this; have := this.pos; omega, rfl⟩))
          rcases hh with ⟨e1, _⟩ | ⟨e1, e2, e3⟩
          · rw [e1] at e
            rw [e] at hlev
            omega
          · rw [← e, hent, hkind.2] at e3
            exact hx2 e3
      · rw [txts_cons, hti, q.text, ht1, unr_cons, txts_append, txts_replicate]
      · cases e
        exact ⟨i, _, rfl, .inr ⟨hi.2.trans hlev, by rw [hent]; exact hkind.1, by rw [hent]; exact hkind.2⟩⟩
    · have hk : k = 1 := by omega
      subst hk
      rw [rnL, if_neg c]
      obtain ⟨q, ql, qh⟩ := ih L hr.tail hS hD hU hIg (by omega)
      obtain ⟨N, hN⟩ := q.gu.gr.ext
      have hx' : kkey (rnL L g).1 x = kkey L x ∧ klev (rnL L g).1 x = klev L x := by
        have := q.gu.gr.dok
        rw [hN] at this ⊢
        exact kl_more hD N this _ x (Nat.le_refl _) kx.1 kx.2
      have htx : txt (rnL L g).1 x = txt L x := by rw [hN]; exact txt_append hD N kx.1
      have hkx : isKnown (rnL L g).1 x := by rw [hN]; exact known_more kx.1 N
      have hql := q.len
      have hone : unr ((x, 1) :: g) = x :: unr g := by rw [unr_cons]; rfl
      refine ⟨⟨q.gu.le (by rw [hone]; simp only [List.length_cons]; omega), ⟨?_, ?_, ?_, ?_⟩, ?_, by rw [hone]; simp only [List.length_cons]; omega⟩, by simp only [List.length_cons, ql], fun x' k' t' e => by cases e; exact ⟨x, _, rfl, .inl ⟨rfl, rfl⟩⟩⟩
      · intro u hu
        rcases List.mem_cons.1 hu with e | hu
        · rw [e]; exact ⟨hkx, kx.2⟩
        · exact q.seq.kn u hu
      · intro u hu
        rcases List.mem_cons.1 hu with e | hu
        · rw [e, hx'.2]; omega
        · exact q.seq.lv u hu
      · cases hg : g with
        | nil => simp [rnL]; trivial
        | cons p' g' =>
          obtain ⟨x2, k2⟩ := p'
          obtain ⟨h, s, hout, hh⟩ := qh x2 k2 g' hg
          have hs := q.seq.nf
          rw [hg] at hout hh hx'
          rw [hg, hout] at hs
          rw [hout]
          refine ⟨fun k k1 k3 => ?_, hs⟩
          rcases hh with ⟨e1, e2⟩ | ⟨e1, _⟩
          · subst e1 e2
            have m2 : h ∈ unr g := by rw [hg, unr_cons]; exact List.mem_append_left _ (List.mem_replicate.2 ⟨by omega, rfl⟩)
            have hh' : kkey (rnL L g).1 h = kkey L h ∧ klev (rnL L g).1 h = klev L h := by
              have := q.gu.gr.dok
              rw [hN] at this ⊢
              exact kl_more hD N this _ h (Nat.le_refl _) (hIg.kn h m2).1 (hIg.kn h m2).2
            rw [hg] at hh'
            rw [hx'.2, hh'.2] at k1
            rw [hx'.1, hh'.1]
            by_cases ek : k = l
            · rintro ⟨_, k5, _⟩
              omega
            · have hn := hI.nf
              rw [hone, hg, unr_cons] at hn
              exact hn.1 k k1 (by omega)
          · rw [e1] at k1
            omega
      · cases hg : g with
        | nil => simp [rnL]; trivial
        | cons p' g' =>
          obtain ⟨x2, k2⟩ := p'
          obtain ⟨h, s, hout, hh⟩ := qh x2 k2 g' hg
          have hs := q.seq.eq
          rw [hg] at hout hh hx'
          rw [hg, hout] at hs
          rw [hout]
          refine ⟨fun e => ?_, hs⟩
          exfalso
          have hx2 : x ≠ x2 := by rw [hg] at hr; exact hr.2.1
          rcases hh with ⟨e1, _⟩ | ⟨e1, _⟩
          · exact hx2 (e.trans e1)
          · rw [← e, hx'.2] at e1
            omega
      · rw [txts_cons, htx, q.text, hone, txts_cons]

/-- Where no run is longer than one, nothing changes. -/
theorem rnL_same : ∀ (g : List (Int × Nat)) (L : List Ent), (∀ p ∈ g, p.2 = 1) → rnL L g = (L, unr g)
  | [], L, _ => rfl
  | (x, k) :: g, L, h => by
    have hk : k = 1 := h (x, k) (by simp)
    subst hk
    rw [rnL, if_neg (by omega), rnL_same g L (fun p hp => h p (List.mem_cons_of_mem _ hp)), unr_cons]
    rfl

end Go.Proofs.YtodmpcnpedpheaaGreatDoor

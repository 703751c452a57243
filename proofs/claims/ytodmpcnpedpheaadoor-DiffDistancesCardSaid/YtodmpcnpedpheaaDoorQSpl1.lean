/- The walks of split.size, check, front and rest. -/
import Derived.Test.YtodmpcnpedpheaaDoorQSg0
import Derived.Deep.LoopGhost
import Derived.Maps.AppendAt
import Derived.Laws.OwnMore
set_option linter.unusedSimpArgs false
set_option linter.unusedVariables false
namespace Go.Proofs.YtodmpcnpedpheaaDoor
open Go.RowKit

theorem bal_one {L : List Ent} (hd : DOk L) (hs : SOk L) {id : Int} {t : List Int} {d : Int} (h : Bal L id t d) (h0 : d = 0) : t.length = 1 := by
  subst h0
  have hk := h.known
  have hbk := hk.2
  rcases hd.at id hk h.ne with ⟨k1, k2⟩ | ⟨k1, k2, k3⟩ | ⟨k1, k2, k3⟩
  · rw [← h.text, txt_letter hk h.ne k1]; rfl
  · have hdep := h.depth
    rw [k3] at hdep
    have hdep' : 1 + max (entAt L (entAt L id).rule.left).depth (entAt L (entAt L id).rule.right).depth = 0 := hdep
    have := (hs.at (entAt L id).rule.left ⟨by omega, by omega⟩).2.1
    omega
  · have he := h.even
    rw [k3] at he
    cases he

theorem Bal.le {L : List Ent} {id : Int} {t : List Int} {d : Int} (h : Bal L id t d) (hd : DOk L) (hs : SOk L) : (t.length : Int) ≤ 1152921504606846976 := by
  have := h.z.len hd hs
  have := (hs.at id h.known).1.len1
  omega

/-- The depth of a part, and the rules that it takes. -/
def partD (d e : Int) (k : Nat) : Prop := 0 ≤ e ∧ e ≤ d ∧ (k : Int) ≤ 3 * e + d

theorem take_left (a b : List Int) (m : Int) (h : m ≤ a.length) : (a ++ b).take m.toNat = a.take m.toNat := List.take_append_of_le_length (by omega)
theorem take_right (a b : List Int) (m : Int) (h : (a.length : Int) ≤ m) : (a ++ b).take m.toNat = a ++ b.take (m - a.length).toNat := by
  rw [List.take_append, List.take_of_length_le (by omega)]
  congr 2
  omega
theorem drop_left (a b : List Int) (m : Int) (h : m ≤ a.length) : (a ++ b).drop m.toNat = a.drop m.toNat ++ b := List.drop_append_of_le_length (by omega)
theorem drop_right (a b : List Int) (m : Int) (h : (a.length : Int) ≤ m) : (a ++ b).drop m.toNat = b.drop (m - a.length).toNat := by
  rw [List.drop_append, List.drop_of_length_le (by omega), List.nil_append]
  congr 1
  omega

end Go.Proofs.YtodmpcnpedpheaaDoor

/- The walks of split.section, Section and Split. -/
set_option linter.unusedSimpArgs false
set_option linter.unusedVariables false
namespace Go.Proofs.YtodmpcnpedpheaaDoor
open Go.RowKit

/-- A range of a text. -/
def cutL (t : List Int) (f n : Int) : List Int := (t.drop f.toNat).take n.toNat

theorem cut_left {a b : List Int} {f n : Int} (h0 : 0 ≤ f) (h1 : 0 ≤ n) (h : f + n ≤ a.length) : cutL (a ++ b) f n = cutL a f n := by
  unfold cutL
  rw [drop_left _ _ _ (by omega), take_left _ _ _ (by rw [List.length_drop]; omega)]
theorem cut_right {a b : List Int} {f n : Int} (h : (a.length : Int) ≤ f) : cutL (a ++ b) f n = cutL b (f - a.length) n := by
  unfold cutL
  rw [drop_right _ _ _ h]
theorem cut_mid {a b : List Int} {f n : Int} (h0 : 0 ≤ f) (h1 : f < a.length) (h : (a.length : Int) < f + n) : cutL (a ++ b) f n = a.drop f.toNat ++ b.take (f + n - a.length).toNat := by
  unfold cutL
  rw [drop_left _ _ _ (by omega), take_right _ _ _ (by rw [List.length_drop]; omega)]
  congr 3
  rw [List.length_drop]
  omega
theorem cut_all {t : List Int} {f n : Int} (h0 : f = 0) (h1 : n = t.length) : cutL t f n = t := by
  subst h0; subst h1
  unfold cutL
  rw [Int.toNat_natCast, show (0 : Int).toNat = 0 from rfl, List.drop_zero, List.take_length]
theorem cut_len {t : List Int} {f n : Int} (h0 : 0 ≤ f) (h1 : 0 ≤ n) (h2 : f + n ≤ t.length) : ((cutL t f n).length : Int) = n := by
  unfold cutL
  rw [List.length_take, List.length_drop]
  omega
theorem cut_zero (t : List Int) (f : Int) : cutL t f 0 = [] := rfl

/-- The depth of a range, and the rules that it takes. -/
def secD (d e : Int) (k : Nat) : Prop := 0 ≤ e ∧ e ≤ d ∧ (k : Int) ≤ 11 * d + 1

/-- The state of section's loop. -/
structure SecR (w wr : World) (L : List Ent) (t : List Int) (d f n : Int) (gk : Nat) (id' f' : Int) (t' : List Int) (d' : Int) : Prop where
  bal : Bal L id' t' d'
  f0 : 0 ≤ f'
  f1 : f' + n ≤ t'.length
  text : cutL t' f' n = cutL t f n
  d0 : d' ≤ d
  gk : d'.toNat < gk
  fr : Fr0 w wr

/-- What Split leaves. -/
def SPost (B : Nat) (w : World) (p mb : Nat) (most : Int) (L : List Ent) (t : List Int) (d m : Int) (e : Ending) (w' : World) : Prop :=
  ∃ L' x y dx dy k, e = .returned (.tuple #[.int .i64 x, .int .i64 y, .nilIface]) ∧ Sto B w' p mb most L' ∧ Kp B mb w w' ∧ Grows L L' k ∧ BalZ L' x (t.take m.toNat) dx ∧ BalZ L' y (t.drop m.toNat) dy ∧ dx ≤ d ∧ dy ≤ d ∧ (k : Int) ≤ 8 * d

end Go.Proofs.YtodmpcnpedpheaaDoor

/- Slices of integers and IDs in memory: reading, and append. -/
set_option linter.unusedSimpArgs false
set_option linter.unusedVariables false
namespace Go.Proofs.YtodmpcnpedpheaaDoor
open Go.RowKit

/-- ST is the type of slices of T, an element has so many cells and bytes. -/
def RT (ST T : TypeId) (size bytes : Nat) : Prop :=
  0 < size ∧ ∃ (i : TypeInfo) (z : Value), Tryd.prog.underlying ST = some (.slice T) ∧ Tryd.prog.info? T = some i ∧ i.zero = some z ∧ i.size = size ∧ i.bytes = bytes ∧ z.cells.size = size

theorem info_id : (Tryd.prog.info? 26).map (fun i => (i.zero, i.size, i.bytes)) = some (some (.int .i64 0), 1, 8) := by kernel_rfl
theorem info_int : (Tryd.prog.info? 3).map (fun i => (i.zero, i.size, i.bytes)) = some (some (.int .i64 0), 1, 8) := by kernel_rfl

theorem rt_id : RT 70 26 1 8 := by
  obtain ⟨i, h1, h2, h3, h4⟩ := info_parts info_id
  exact ⟨by omega, i, _, Tryd.underlying70, h1, h2, h3, h4, rfl⟩
theorem rt_int : RT 58 3 1 8 := by
  obtain ⟨i, h1, h2, h3, h4⟩ := info_parts info_int
  exact ⟨by omega, i, _, Tryd.underlying58, h1, h2, h3, h4, rfl⟩

theorem owns_form {w : World} {base : Nat} {e : TypeId} {size n : Nat} {v : Value} {xs : List Value} (h : w.ownsRow base e size v n xs) : ∃ a cap, v = .slice a n cap := by
  rcases h.2 with ⟨h1, h2⟩ | ⟨g, cap, cur, h1, _⟩
  · exact ⟨none, 0, by rw [h1, h2]⟩
  · exact ⟨_, cap, h1⟩

/-- What is appended: cells that can be read. -/
def SrcAt (w : World) (src : Value) (m : Nat) (news : List Value) : Prop := (src = .slice none 0 0 ∧ m = 0 ∧ news = []) ∨ ∃ ad c, src = .slice (some ad) m c ∧ ∀ j u, news[j]? = some u → w.cell? (ad.add j) = some u

theorem run_append_rt {ST T : TypeId} {size bytes : Nat} (hT : RT ST T size bytes) (w : World) (ty : TypeId) (B : Nat) (v : Value) (n : Nat) (xs : List Value) (hown : w.ownsRow B T size v n xs) (src : Value) (m : Nat) (news : List Value) (hsrc : SrcAt w src m news)
    (hl : news.length = m * size) (h1 : ∀ u ∈ news, u.oneCell' = true) (h63 : n + m ≤ maxLen) (hb : (n + m) * bytes ≤ 140737488355328) (hB : B ≤ w.heap.size) :
    ∃ v' w', (Builtin.append_ #[ST, ST] ty #[v, src]).run Tryd.prog w = .ok v' w' ∧ w'.ownsRow B T size v' (n + m) (xs ++ news) ∧ w.grownBy w' v.ownBlock ∧ (v'.ownBlock = v.ownBlock ∨ v'.ownBlock = some w.heap.size) := by
  obtain ⟨hp, i, z, hu, hi, hz, hs, hby, hzs⟩ := hT
  rcases hsrc with ⟨rfl, rfl, rfl⟩ | ⟨ad, c, rfl, hc⟩
  · exact ⟨v, w, run_append_owned_none (P := Tryd.prog) (w := w) B _ ty _ i size hu hi v _ _ hown, by simpa using hown, World.grownBy.refl w _, .inl rfl⟩
  · obtain ⟨v', w', h1, h2, h3, _, h5⟩ := run_append_own_at (P := Tryd.prog) w B ST ty T i z size bytes hu hi hz hs hby hzs hp v n xs hown ad m c news hl hc h1 h63 hb hB
    exact ⟨v', w', h1, h2, h3, h5⟩

theorem wpList_append_rt {ST T : TypeId} {size bytes : Nat} (hT : RT ST T size bytes) {w : World} {ops : Array Oper} {rest : List Oper} {o : Oper} {a : Act} {Q : Exit → Act → World → Prop} (hgd : o.guard = none) (s x : Operand)
    (ho : o.op = .call { callee := .builtin .append, args := #[s, x], argTypes := #[ST, ST] })
    (B : Nat) (v : Value) (n : Nat) (xs : List Value) (hs : a.eval s = v) (hown : w.ownsRow B T size v n xs) (src : Value) (m : Nat) (news : List Value) (hx : a.eval x = src) (hsrc : SrcAt w src m news)
    (hl : news.length = m * size) (h1 : ∀ u ∈ news, u.oneCell' = true) (h63 : n + m ≤ maxLen) (hb : (n + m) * bytes ≤ 140737488355328) (hB : B ≤ w.heap.size)
    (h : ∀ v' w', w'.ownsRow B T size v' (n + m) (xs ++ news) → w.grownBy w' v.ownBlock → (v'.ownBlock = v.ownBlock ∨ v'.ownBlock = some w.heap.size) → wpList Tryd.prog ops Q rest (a.put o.dst v') w') : wpList Tryd.prog ops Q (o :: rest) a w := by
  obtain ⟨v', w', hr, h2, h3, h4⟩ := run_append_rt hT w o.type B v n xs hown src m news hsrc hl h1 h63 hb hB
  refine wpList_plain hgd fun K hK => ?_
  unfold Oper.wp execOp
  simp only [ho, resolve, invoke, builtin, Sem.run_bind, Sem.run_pure, Result.andThen_ok, List.map_toArray, List.map_cons, List.map_nil, hs, hx, hr]
  exact hK _ _ (h v' w' h2 h3 h4)

/-- A slice of integers that the call made (w0: the world at its start). -/
structure OwnI (T : TypeId) (w0 w : World) (v : Value) (xs : List Int) : Prop where
  row : w.ownsRow w0.heap.size T 1 v xs.length (xs.map fun x => Value.int .i64 x)
  fr : Fr0 w0 w

theorem OwnI.nil (T : TypeId) {w0 w : World} (h : Fr0 w0 w) : OwnI T w0 w (.slice none 0 0) [] := ⟨World.ownsRow_nil _ _ _ _, h⟩
theorem OwnI.kept0 {T : TypeId} {w0 w w' : World} {v : Value} {xs : List Int} (h : OwnI T w0 w v xs) (hf : Fr0 w w') : OwnI T w0 w' v xs := ⟨hf.owns h.row, h.fr.trans hf⟩
theorem OwnI.form {T : TypeId} {w0 w : World} {v : Value} {xs : List Int} (h : OwnI T w0 w v xs) : ∃ a cap, v = .slice a xs.length cap := owns_form h.row
theorem OwnI.ge {T : TypeId} {w0 w : World} {v : Value} {xs : List Int} (h : OwnI T w0 w v xs) (k : Nat) (hk : v.ownBlock = some k) : w0.heap.size ≤ k := (h.row.lt k hk).1

theorem src_one (w : World) (x : Value) (T : TypeId) (c : Nat) : SrcAt (w.alloc (.cells #[x] T (0, 0))) (.slice (some ⟨w.heap.size, 0, none⟩) 1 c) 1 [x] := by
  refine .inr ⟨_, c, rfl, fun j u hj => ?_⟩
  have h := World.news_of_block (cs := #[x]) (t := T) (fr := (0, 0)) (heap_alloc_new w (.cells #[x] T (0, 0)))
  exact h j u hj

/-- One integer more. -/
theorem OwnI.push {T : TypeId} {w0 w w1 : World} {v v' : Value} {xs : List Int} {o : Obj} {y : Int} (h : OwnI T w0 w v xs) (h1 : w1.ownsRow w0.heap.size T 1 v' (xs.length + 1) ((xs.map fun x => Value.int .i64 x) ++ [.int .i64 y])) (hg : (w.alloc o).grownBy w1 v.ownBlock) : OwnI T w0 w1 v' (xs ++ [y]) :=
  ⟨by simpa using h1, Fr.grown (Fr0.alloc h.fr o) hg (fun j hj hlt => by have := h.ge j hj; omega)⟩

theorem wpList_push {ST T : TypeId} (hT : RT ST T 1 8) {w0 w : World} {ops : Array Oper} {rest : List Oper} {o : Oper} {a : Act} {Q : Exit → Act → World → Prop} (hgd : o.guard = none) (s x : Operand)
    (ho : o.op = .call { callee := .builtin .append, args := #[s, x], argTypes := #[ST, ST] })
    (v : Value) (xs : List Int) (hs : a.eval s = v) (hown : OwnI T w0 w v xs) (T' : TypeId) (y : Int) (c H : Nat) (hH : w.heap.size = H) (hx : a.eval x = .slice (some ⟨H, 0, none⟩) 1 c) (hlen : xs.length ≤ 1000000)
    (h : ∀ v' w', OwnI T w0 w' v' (xs ++ [y]) → (w.alloc (.cells #[.int .i64 y] T' (0, 0))).grownBy w' v.ownBlock → (v'.ownBlock = v.ownBlock ∨ v'.ownBlock = some (w.heap.size + 1)) → wpList Tryd.prog ops Q rest (a.put o.dst v') w') :
    wpList Tryd.prog ops Q (o :: rest) a (w.alloc (.cells #[.int .i64 y] T' (0, 0))) := by
  subst hH
  have hsz := hown.fr.size
  refine wpList_append_rt hT hgd s x ho w0.heap.size v xs.length _ hs (hown.row.alloc _) _ 1 [.int .i64 y] hx (src_one w _ T' c) rfl (by simp [Value.oneCell']) (by unfold maxLen; omega) (by omega) (by simp; omega) ?_
  intro v' w' h1 h2 h3
  exact h v' w' (hown.push h1 h2) h2 (by simpa using h3)

/-- Integers that can be read at an address (if there are any), in no block of a store. -/
def IntsAt (w : World) (a : Option Addr) (xs : List Int) : Prop :=
  ∀ i (h : i < xs.length), ∃ b off cs t fr, a = some ⟨b, off, none⟩ ∧ w.heap[b]? = some (Obj.cells cs t fr) ∧ t ≠ 57 ∧ t ≠ 114 ∧ cs[off + i]? = some (.int .i64 xs[i])

theorem IntsAt.nil (w : World) (a : Option Addr) : IntsAt w a [] := fun i h => by simp at h
theorem IntsAt.kept0 {w w' : World} {a : Option Addr} {xs : List Int} (h : IntsAt w a xs) (hf : Fr0 w w') : IntsAt w' a xs := by
  intro i hi
  obtain ⟨b, off, cs, t, fr, h1, h2, h3⟩ := h i hi
  exact ⟨b, off, cs, t, fr, h1, hf.kept h2, h3⟩
theorem IntsAt.keptK {B mb : Nat} {w w' : World} {a : Option Addr} {xs : List Int} (h : IntsAt w a xs) (hf : Kp B mb w w') : IntsAt w' a xs := by
  intro i hi
  obtain ⟨b, off, cs, t, fr, h1, h2, h3, h4, h5⟩ := h i hi
  exact ⟨b, off, cs, t, fr, h1, hf.cells _ _ _ _ h2 h3 h4, h3, h4, h5⟩
theorem IntsAt.cell {w : World} {a : Option Addr} {xs : List Int} (h : IntsAt w a xs) (i : Nat) (hi : i < xs.length) : ∃ b off, a = some ⟨b, off, none⟩ ∧ b < w.heap.size ∧ w.cell? ⟨b, off + i, none⟩ = some (.int .i64 xs[i]) := by
  obtain ⟨b, off, cs, t, fr, h1, h2, h3, h4, h5⟩ := h i hi
  exact ⟨b, off, h1, lt_of_block h2, by rw [cell_of_block h2]; exact h5⟩
theorem ints_of_own {base : Nat} {T : TypeId} {w : World} {v : Value} {xs : List Int} (h : w.ownsRow base T 1 v xs.length (xs.map fun x => Value.int .i64 x)) (h1 : T ≠ 57) (h2 : T ≠ 114) : ∃ a cap, v = .slice a xs.length cap ∧ IntsAt w a xs := by
  rcases h.2 with ⟨e1, e2⟩ | ⟨g, cap, cur, e1, _, hg, _, _, _, ht⟩
  · have : xs = [] := List.eq_nil_of_length_eq_zero e2
    subst this
    exact ⟨none, 0, e1, IntsAt.nil w none⟩
  · refine ⟨_, cap, e1, fun i hi => ⟨g, 0, cur, T, (0, 0), rfl, hg, h1, h2, ?_⟩⟩
    have := congrArg (fun l => l[i]?) ht
    simp only [Nat.mul_one, List.getElem?_map, List.getElem?_eq_getElem hi, Option.map_some] at this
    rw [List.getElem?_take_of_lt hi] at this
    rw [Nat.zero_add, ← Array.getElem?_toList]
    exact this

def sumI : List Int → Int
  | [] => 0
  | x :: r => x + sumI r
theorem sumI_append (a b : List Int) : sumI (a ++ b) = sumI a + sumI b := by
  induction a with
  | nil => simp [sumI]
  | cons x r ih => simp [sumI, ih]; omega
theorem sumI_nn {a : List Int} (h : ∀ x ∈ a, 0 ≤ x) : 0 ≤ sumI a := by
  induction a with
  | nil => simp [sumI]
  | cons x r ih =>
    have := h x (by simp)
    have := ih (fun y hy => h y (by simp [hy]))
    simp [sumI]; omega
theorem sumI_take {a : List Int} (h : ∀ x ∈ a, 0 ≤ x) (k : Nat) (hk : k < a.length) : 0 ≤ sumI (a.take k) ∧ sumI (a.take (k + 1)) = sumI (a.take k) + a[k] ∧ sumI (a.take (k + 1)) ≤ sumI a ∧ 0 ≤ a[k] := by
  refine ⟨sumI_nn (fun x hx => h x (List.mem_of_mem_take hx)), ?_, ?_, h _ (List.getElem_mem _)⟩
  · rw [List.take_succ_eq_append_getElem hk, sumI_append]; simp [sumI]
  · have := sumI_append (a.take (k + 1)) (a.drop (k + 1))
    rw [List.take_append_drop] at this
    have := sumI_nn (a := a.drop (k + 1)) (fun x hx => h x (List.mem_of_mem_drop hx))
    omega

theorem ne_of_types {w : World} {a b : Nat} {c1 c2 : Array Value} {t1 t2 : TypeId} {f1 f2 : Nat × Nat} (h1 : w.heap[a]? = some (.cells c1 t1 f1)) (h2 : w.heap[b]? = some (.cells c2 t2 f2)) (ht : t1 ≠ t2) : a ≠ b := by
  rintro rfl
  rw [h1] at h2
  simp at h2
  exact ht h2.2.1

theorem ne_of_map {w : World} {a b : Nat} {es : Array MapEntry} {c : Nat} {c2 : Array Value} {t2 : TypeId} {f2 : Nat × Nat} (h1 : w.heap[a]? = some (.map es c)) (h2 : w.heap[b]? = some (.cells c2 t2 f2)) : a ≠ b := by
  rintro rfl
  rw [h1] at h2
  simp at h2

theorem owns_block {w : World} {base : Nat} {e : TypeId} {size n : Nat} {v : Value} {xs : List Value} (h : w.ownsRow base e size v n xs) {k : Nat} (hk : v.ownBlock = some k) : ∃ cur, w.heap[k]? = some (.cells cur e (0, 0)) := by
  rcases h.2 with ⟨h1, _⟩ | ⟨g, cap, cur, h1, _, hg, _⟩
  · rw [h1] at hk; simp [Value.ownBlock] at hk
  · rw [h1] at hk
    simp [Value.ownBlock] at hk
    subst hk
    exact ⟨cur, hg⟩

/-- A slice of the call's own has grown: the store is as it was. -/
theorem Sto.push {B : Nat} {w w' : World} {p mb : Nat} {most : Int} {L : List Ent} (hS : Sto B w p mb most L) {base : Nat} {T : TypeId} {size n : Nat} {v : Value} {xs : List Value} (ho : w.ownsRow base T size v n xs)
    (h1 : T ≠ 57) (h2 : T ≠ 114) {o : Obj} (hg : (w.alloc o).grownBy w' v.ownBlock) : Sto B w' p mb most L := by
  obtain ⟨sv, hS, q⟩ := hS
  refine ⟨sv, hS.kept (S := fun k => v.ownBlock = some k) (Fr.grown ((Fr.refl _ w).alloc o) hg (fun k hk _ => hk)) ?_ ?_ ?_, q⟩
  · intro h
    obtain ⟨cur, hc⟩ := owns_block ho h
    exact ne_of_types hS.ptr hc (fun e => h1 e.symm) rfl
  · intro h
    obtain ⟨cur, hc⟩ := owns_block ho h
    exact ne_of_map hS.mp hc rfl
  · intro k hk h
    obtain ⟨cur, hc⟩ := owns_block ho h
    obtain ⟨cur2, hc2⟩ := owns_block hS.own hk
    exact ne_of_types hc2 hc (fun e => h2 e.symm) rfl

theorem Kp.grown {B mb : Nat} {w0 w w' : World} {row : Option Nat} (h : Kp B mb w0 w) (hg : w.grownBy w' row) (hr : ∀ k, row = some k → w0.heap.size ≤ k) : Kp B mb w0 w' := by
  have key : ∀ k, k < w0.heap.size → w'.heap[k]? = w.heap[k]? := fun k hk => hg.block k (Nat.lt_of_lt_of_le hk h.size) (fun e => by have := hr k e.symm; omega)
  refine ⟨hg.os.trans h.os, hg.tape.trans h.tape, hg.output.trans h.output, Nat.le_trans h.size hg.size, fun k h1 h2 => (key k h2).trans (h.low k h1 h2), fun k cs t f e n1 n2 => ?_, fun k es n e ne => ?_⟩
  · rw [key k (lt_of_block e)]; exact h.cells k cs t f e n1 n2
  · rw [key k (lt_of_block e)]; exact h.maps k es n e ne

theorem Kp.alloc {B mb : Nat} {w0 w : World} (h : Kp B mb w0 w) (o : Obj) : Kp B mb w0 (w.alloc o) := h.trans (Kp.of0 ((Fr0.refl w).alloc o))

theorem wpList_pushR {ST T : TypeId} (hT : RT ST T 1 8) {w : World} {ops : Array Oper} {rest : List Oper} {o : Oper} {a : Act} {Q : Exit → Act → World → Prop} (hgd : o.guard = none) (s x : Operand)
    (ho : o.op = .call { callee := .builtin .append, args := #[s, x], argTypes := #[ST, ST] })
    (base : Nat) (v : Value) (xs : List Int) (hs : a.eval s = v) (hown : w.ownsRow base T 1 v xs.length (xs.map fun x => Value.int .i64 x)) (hb : base ≤ w.heap.size) (T' : TypeId) (y : Int) (c H : Nat) (hH : w.heap.size = H) (hx : a.eval x = .slice (some ⟨H, 0, none⟩) 1 c) (hlen : xs.length ≤ 1000000)
    (h : ∀ v' w', w'.ownsRow base T 1 v' (xs ++ [y]).length ((xs ++ [y]).map fun x => Value.int .i64 x) → (w.alloc (.cells #[.int .i64 y] T' (0, 0))).grownBy w' v.ownBlock → (v'.ownBlock = v.ownBlock ∨ v'.ownBlock = some (w.heap.size + 1)) → wpList Tryd.prog ops Q rest (a.put o.dst v') w') :
    wpList Tryd.prog ops Q (o :: rest) a (w.alloc (.cells #[.int .i64 y] T' (0, 0))) := by
  subst hH
  refine wpList_append_rt hT hgd s x ho base v xs.length _ hs (hown.alloc _) _ 1 [.int .i64 y] hx (src_one w _ T' c) rfl (by simp [Value.oneCell']) (by unfold maxLen; omega) (by omega) (by simp; omega) ?_
  intro v' w' h1 h2 h3
  exact h v' w' (by simpa using h1) h2 (by simpa using h3)

end Go.Proofs.YtodmpcnpedpheaaDoor

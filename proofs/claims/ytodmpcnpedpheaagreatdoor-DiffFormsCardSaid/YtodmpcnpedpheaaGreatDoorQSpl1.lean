/- The walks of split.size, check, front and rest. -/
import Derived.Test.YtodmpcnpedpheaaGreatDoorQSt5
import Derived.Deep.LoopGhost
import Derived.Maps.AppendAt
import Derived.Laws.OwnMore
set_option linter.unusedSimpArgs false
set_option linter.unusedVariables false
namespace Go.Proofs.YtodmpcnpedpheaaGreatDoor
open Go.RowKit

theorem bal_one {L : List Ent} (hd : DOk L) (hs : SOk L) {id : Int} {t : List Int} {d : Int} (h : Bal L id t d) (h0 : d = 0) : t.length = 1 := by
  subst h0
  have hk := h.known
  have hbk := hk.2
  rcases hd.at id hk h.ne with ⟨k1, k2⟩ | ⟨k1, k2, k3⟩ | ⟨k1, k2, k3⟩
  · rw [← h.text, txt_letter hk h.ne k1]; rfl
  · have hdep := h.depth
    rw [k3] at hdep
    have hdep' : 1 + max (entAt L (entAt L id).rule.left).depth (entAt L (entAt L id).rule.right).depth = 0 := hdep
    have := (hs.at (entAt L id).rule.left ⟨by omega, by omega⟩).2.1
    omega
  · have he := h.even
    rw [k3] at he
    cases he

theorem Bal.le {L : List Ent} {id : Int} {t : List Int} {d : Int} (h : Bal L id t d) (hd : DOk L) (hs : SOk L) : (t.length : Int) ≤ 1152921504606846976 := by
  have := h.z.len hd hs
  have := (hs.at id h.known).1.len1
  omega

theorem take_left (a b : List Int) (m : Int) (h : m ≤ a.length) : (a ++ b).take m.toNat = a.take m.toNat := List.take_append_of_le_length (by omega)
end Go.Proofs.YtodmpcnpedpheaaGreatDoor

/- Slices of integers and IDs in memory: reading, and append. -/
set_option linter.unusedSimpArgs false
set_option linter.unusedVariables false
namespace Go.Proofs.YtodmpcnpedpheaaGreatDoor
open Go.RowKit

/-- ST is the type of slices of T, an element has so many cells and bytes. -/
def RT (ST T : TypeId) (size bytes : Nat) : Prop :=
  0 < size ∧ ∃ (i : TypeInfo) (z : Value), Tryz.prog.underlying ST = some (.slice T) ∧ Tryz.prog.info? T = some i ∧ i.zero = some z ∧ i.size = size ∧ i.bytes = bytes ∧ z.cells.size = size

theorem info_id : (Tryz.prog.info? 38).map (fun i => (i.zero, i.size, i.bytes)) = some (some (.int .i64 0), 1, 8) := by kernel_rfl
theorem info_int : (Tryz.prog.info? 3).map (fun i => (i.zero, i.size, i.bytes)) = some (some (.int .i64 0), 1, 8) := by kernel_rfl

theorem rt_id : RT 29 38 1 8 := by
  obtain ⟨i, h1, h2, h3, h4⟩ := info_parts info_id
  exact ⟨by omega, i, _, Tryz.underlying29, h1, h2, h3, h4, rfl⟩
theorem rt_int : RT 33 3 1 8 := by
  obtain ⟨i, h1, h2, h3, h4⟩ := info_parts info_int
  exact ⟨by omega, i, _, Tryz.underlying33, h1, h2, h3, h4, rfl⟩

theorem owns_form {w : World} {base : Nat} {e : TypeId} {size n : Nat} {v : Value} {xs : List Value} (h : w.ownsRow base e size v n xs) : ∃ a cap, v = .slice a n cap := by
  rcases h.2 with ⟨h1, h2⟩ | ⟨g, cap, cur, h1, _⟩
  · exact ⟨none, 0, by rw [h1, h2]⟩
  · exact ⟨_, cap, h1⟩

/-- What is appended: cells that can be read. -/
def SrcAt (w : World) (src : Value) (m : Nat) (news : List Value) : Prop := (src = .slice none 0 0 ∧ m = 0 ∧ news = []) ∨ ∃ ad c, src = .slice (some ad) m c ∧ ∀ j u, news[j]? = some u → w.cell? (ad.add j) = some u

theorem run_append_rt {ST T : TypeId} {size bytes : Nat} (hT : RT ST T size bytes) (w : World) (ty : TypeId) (B : Nat) (v : Value) (n : Nat) (xs : List Value) (hown : w.ownsRow B T size v n xs) (src : Value) (m : Nat) (news : List Value) (hsrc : SrcAt w src m news)
    (hl : news.length = m * size) (h1 : ∀ u ∈ news, u.oneCell' = true) (h63 : n + m ≤ maxLen) (hb : (n + m) * bytes ≤ 140737488355328) (hB : B ≤ w.heap.size) :
    ∃ v' w', (Builtin.append_ #[ST, ST] ty #[v, src]).run Tryz.prog w = .ok v' w' ∧ w'.ownsRow B T size v' (n + m) (xs ++ news) ∧ w.grownBy w' v.ownBlock ∧ (v'.ownBlock = v.ownBlock ∨ v'.ownBlock = some w.heap.size) := by
  obtain ⟨hp, i, z, hu, hi, hz, hs, hby, hzs⟩ := hT
  rcases hsrc with ⟨rfl, rfl, rfl⟩ | ⟨ad, c, rfl, hc⟩
  · exact ⟨v, w, run_append_owned_none (P := Tryz.prog) (w := w) B _ ty _ i size hu hi v _ _ hown, by simpa using hown, World.grownBy.refl w _, .inl rfl⟩
  · obtain ⟨v', w', h1, h2, h3, _, h5⟩ := run_append_own_at (P := Tryz.prog) w B ST ty T i z size bytes hu hi hz hs hby hzs hp v n xs hown ad m c news hl hc h1 h63 hb hB
    exact ⟨v', w', h1, h2, h3, h5⟩

theorem wpList_append_rt {ST T : TypeId} {size bytes : Nat} (hT : RT ST T size bytes) {w : World} {ops : Array Oper} {rest : List Oper} {o : Oper} {a : Act} {Q : Exit → Act → World → Prop} (hgd : o.guard = none) (s x : Operand)
    (ho : o.op = .call { callee := .builtin .append, args := #[s, x], argTypes := #[ST, ST] })
    (B : Nat) (v : Value) (n : Nat) (xs : List Value) (hs : a.eval s = v) (hown : w.ownsRow B T size v n xs) (src : Value) (m : Nat) (news : List Value) (hx : a.eval x = src) (hsrc : SrcAt w src m news)
    (hl : news.length = m * size) (h1 : ∀ u ∈ news, u.oneCell' = true) (h63 : n + m ≤ maxLen) (hb : (n + m) * bytes ≤ 140737488355328) (hB : B ≤ w.heap.size)
    (h : ∀ v' w', w'.ownsRow B T size v' (n + m) (xs ++ news) → w.grownBy w' v.ownBlock → (v'.ownBlock = v.ownBlock ∨ v'.ownBlock = some w.heap.size) → wpList Tryz.prog ops Q rest (a.put o.dst v') w') : wpList Tryz.prog ops Q (o :: rest) a w := by
  obtain ⟨v', w', hr, h2, h3, h4⟩ := run_append_rt hT w o.type B v n xs hown src m news hsrc hl h1 h63 hb hB
  refine wpList_plain hgd fun K hK => ?_
  unfold Oper.wp execOp
  simp only [ho, resolve, invoke, builtin, Sem.run_bind, Sem.run_pure, Result.andThen_ok, List.map_toArray, List.map_cons, List.map_nil, hs, hx, hr]
  exact hK _ _ (h v' w' h2 h3 h4)

/-- A slice of integers that the call made (w0: the world at its start). -/
structure OwnI (T : TypeId) (w0 w : World) (v : Value) (xs : List Int) : Prop where
  row : w.ownsRow w0.heap.size T 1 v xs.length (xs.map fun x => Value.int .i64 x)
  fr : Fr0 w0 w

theorem OwnI.nil (T : TypeId) {w0 w : World} (h : Fr0 w0 w) : OwnI T w0 w (.slice none 0 0) [] := ⟨World.ownsRow_nil _ _ _ _, h⟩
theorem OwnI.kept0 {T : TypeId} {w0 w w' : World} {v : Value} {xs : List Int} (h : OwnI T w0 w v xs) (hf : Fr0 w w') : OwnI T w0 w' v xs := ⟨hf.owns h.row, h.fr.trans hf⟩
theorem OwnI.form {T : TypeId} {w0 w : World} {v : Value} {xs : List Int} (h : OwnI T w0 w v xs) : ∃ a cap, v = .slice a xs.length cap := owns_form h.row
theorem OwnI.ge {T : TypeId} {w0 w : World} {v : Value} {xs : List Int} (h : OwnI T w0 w v xs) (k : Nat) (hk : v.ownBlock = some k) : w0.heap.size ≤ k := (h.row.lt k hk).1

theorem src_one (w : World) (x : Value) (T : TypeId) (c : Nat) : SrcAt (w.alloc (.cells #[x] T (0, 0))) (.slice (some ⟨w.heap.size, 0, none⟩) 1 c) 1 [x] := by
  refine .inr ⟨_, c, rfl, fun j u hj => ?_⟩
  have h := World.news_of_block (cs := #[x]) (t := T) (fr := (0, 0)) (heap_alloc_new w (.cells #[x] T (0, 0)))
  exact h j u hj

/-- One integer more. -/
theorem OwnI.push {T : TypeId} {w0 w w1 : World} {v v' : Value} {xs : List Int} {o : Obj} {y : Int} (h : OwnI T w0 w v xs) (h1 : w1.ownsRow w0.heap.size T 1 v' (xs.length + 1) ((xs.map fun x => Value.int .i64 x) ++ [.int .i64 y])) (hg : (w.alloc o).grownBy w1 v.ownBlock) : OwnI T w0 w1 v' (xs ++ [y]) :=
  ⟨by simpa using h1, Fr.grown (Fr0.alloc h.fr o) hg (fun j hj hlt => by have := h.ge j hj; omega)⟩

theorem wpList_push {ST T : TypeId} (hT : RT ST T 1 8) {w0 w : World} {ops : Array Oper} {rest : List Oper} {o : Oper} {a : Act} {Q : Exit → Act → World → Prop} (hgd : o.guard = none) (s x : Operand)
    (ho : o.op = .call { callee := .builtin .append, args := #[s, x], argTypes := #[ST, ST] })
    (v : Value) (xs : List Int) (hs : a.eval s = v) (hown : OwnI T w0 w v xs) (T' : TypeId) (y : Int) (c H : Nat) (hH : w.heap.size = H) (hx : a.eval x = .slice (some ⟨H, 0, none⟩) 1 c) (hlen : xs.length ≤ 1000000)
    (h : ∀ v' w', OwnI T w0 w' v' (xs ++ [y]) → (w.alloc (.cells #[.int .i64 y] T' (0, 0))).grownBy w' v.ownBlock → (v'.ownBlock = v.ownBlock ∨ v'.ownBlock = some (w.heap.size + 1)) → wpList Tryz.prog ops Q rest (a.put o.dst v') w') :
    wpList Tryz.prog ops Q (o :: rest) a (w.alloc (.cells #[.int .i64 y] T' (0, 0))) := by
  subst hH
  have hsz := hown.fr.size
  refine wpList_append_rt hT hgd s x ho w0.heap.size v xs.length _ hs (hown.row.alloc _) _ 1 [.int .i64 y] hx (src_one w _ T' c) rfl (by simp [Value.oneCell']) (by unfold maxLen; omega) (by omega) (by simp; omega) ?_
  intro v' w' h1 h2 h3
  exact h v' w' (hown.push h1 h2) h2 (by simpa using h3)

/-- Integers that can be read at an address (if there are any), in no block of a store. -/
def IntsAt (w : World) (a : Option Addr) (xs : List Int) : Prop :=
  ∀ i (h : i < xs.length), ∃ b off cs t fr, a = some ⟨b, off, none⟩ ∧ w.heap[b]? = some (Obj.cells cs t fr) ∧ t ≠ 77 ∧ t ≠ 129 ∧ cs[off + i]? = some (.int .i64 xs[i])

theorem IntsAt.nil (w : World) (a : Option Addr) : IntsAt w a [] := fun i h => by simp at h
theorem IntsAt.kept0 {w w' : World} {a : Option Addr} {xs : List Int} (h : IntsAt w a xs) (hf : Fr0 w w') : IntsAt w' a xs := by
  intro i hi
  obtain ⟨b, off, cs, t, fr, h1, h2, h3⟩ := h i hi
  exact ⟨b, off, cs, t, fr, h1, hf.kept h2, h3⟩
theorem IntsAt.keptK {B mb : Nat} {w w' : World} {a : Option Addr} {xs : List Int} (h : IntsAt w a xs) (hf : Kp B mb w w') : IntsAt w' a xs := by
  intro i hi
  obtain ⟨b, off, cs, t, fr, h1, h2, h3, h4, h5⟩ := h i hi
  exact ⟨b, off, cs, t, fr, h1, hf.cells _ _ _ _ h2 h3 h4, h3, h4, h5⟩
theorem IntsAt.cell {w : World} {a : Option Addr} {xs : List Int} (h : IntsAt w a xs) (i : Nat) (hi : i < xs.length) : ∃ b off, a = some ⟨b, off, none⟩ ∧ b < w.heap.size ∧ w.cell? ⟨b, off + i, none⟩ = some (.int .i64 xs[i]) := by
  obtain ⟨b, off, cs, t, fr, h1, h2, h3, h4, h5⟩ := h i hi
  exact ⟨b, off, h1, lt_of_block h2, by rw [cell_of_block h2]; exact h5⟩
theorem ne_of_types {w : World} {a b : Nat} {c1 c2 : Array Value} {t1 t2 : TypeId} {f1 f2 : Nat × Nat} (h1 : w.heap[a]? = some (.cells c1 t1 f1)) (h2 : w.heap[b]? = some (.cells c2 t2 f2)) (ht : t1 ≠ t2) : a ≠ b := by
  rintro rfl
  rw [h1] at h2
  simp at h2
  exact ht h2.2.1

theorem ne_of_map {w : World} {a b : Nat} {es : Array MapEntry} {c : Nat} {c2 : Array Value} {t2 : TypeId} {f2 : Nat × Nat} (h1 : w.heap[a]? = some (.map es c)) (h2 : w.heap[b]? = some (.cells c2 t2 f2)) : a ≠ b := by
  rintro rfl
  rw [h1] at h2
  simp at h2

theorem owns_block {w : World} {base : Nat} {e : TypeId} {size n : Nat} {v : Value} {xs : List Value} (h : w.ownsRow base e size v n xs) {k : Nat} (hk : v.ownBlock = some k) : ∃ cur, w.heap[k]? = some (.cells cur e (0, 0)) := by
  rcases h.2 with ⟨h1, _⟩ | ⟨g, cap, cur, h1, _, hg, _⟩
  · rw [h1] at hk; simp [Value.ownBlock] at hk
  · rw [h1] at hk
    simp [Value.ownBlock] at hk
    subst hk
    exact ⟨cur, hg⟩

/-- A slice of the call's own has grown: the store is as it was. -/
theorem Sto.push {B : Nat} {w w' : World} {p mb : Nat} {most : Int} {L : List Ent} (hS : Sto B w p mb most L) {base : Nat} {T : TypeId} {size n : Nat} {v : Value} {xs : List Value} (ho : w.ownsRow base T size v n xs)
    (h1 : T ≠ 77) (h2 : T ≠ 129) {o : Obj} (hg : (w.alloc o).grownBy w' v.ownBlock) : Sto B w' p mb most L := by
  obtain ⟨sv, hS, q⟩ := hS
  refine ⟨sv, hS.kept (S := fun k => v.ownBlock = some k) (Fr.grown ((Fr.refl _ w).alloc o) hg (fun k hk _ => hk)) ?_ ?_ ?_, q⟩
  · intro h
    obtain ⟨cur, hc⟩ := owns_block ho h
    exact ne_of_types hS.ptr hc (fun e => h1 e.symm) rfl
  · intro h
    obtain ⟨cur, hc⟩ := owns_block ho h
    exact ne_of_map hS.mp hc rfl
  · intro k hk h
    obtain ⟨cur, hc⟩ := owns_block ho h
    obtain ⟨cur2, hc2⟩ := owns_block hS.own hk
    exact ne_of_types hc2 hc (fun e => h2 e.symm) rfl

theorem Kp.grown {B mb : Nat} {w0 w w' : World} {row : Option Nat} (h : Kp B mb w0 w) (hg : w.grownBy w' row) (hr : ∀ k, row = some k → w0.heap.size ≤ k) : Kp B mb w0 w' := by
  have key : ∀ k, k < w0.heap.size → w'.heap[k]? = w.heap[k]? := fun k hk => hg.block k (Nat.lt_of_lt_of_le hk h.size) (fun e => by have := hr k e.symm; omega)
  refine ⟨hg.os.trans h.os, hg.tape.trans h.tape, hg.output.trans h.output, Nat.le_trans h.size hg.size, fun k h1 h2 => (key k h2).trans (h.low k h1 h2), fun k cs t f e n1 n2 => ?_, fun k es n e ne => ?_⟩
  · rw [key k (lt_of_block e)]; exact h.cells k cs t f e n1 n2
  · rw [key k (lt_of_block e)]; exact h.maps k es n e ne

theorem Kp.alloc {B mb : Nat} {w0 w : World} (h : Kp B mb w0 w) (o : Obj) : Kp B mb w0 (w.alloc o) := h.trans (Kp.of0 ((Fr0.refl w).alloc o))

theorem wpList_pushR {ST T : TypeId} (hT : RT ST T 1 8) {w : World} {ops : Array Oper} {rest : List Oper} {o : Oper} {a : Act} {Q : Exit → Act → World → Prop} (hgd : o.guard = none) (s x : Operand)
    (ho : o.op = .call { callee := .builtin .append, args := #[s, x], argTypes := #[ST, ST] })
    (base : Nat) (v : Value) (xs : List Int) (hs : a.eval s = v) (hown : w.ownsRow base T 1 v xs.length (xs.map fun x => Value.int .i64 x)) (hb : base ≤ w.heap.size) (T' : TypeId) (y : Int) (c H : Nat) (hH : w.heap.size = H) (hx : a.eval x = .slice (some ⟨H, 0, none⟩) 1 c) (hlen : xs.length ≤ 1000000)
    (h : ∀ v' w', w'.ownsRow base T 1 v' (xs ++ [y]).length ((xs ++ [y]).map fun x => Value.int .i64 x) → (w.alloc (.cells #[.int .i64 y] T' (0, 0))).grownBy w' v.ownBlock → (v'.ownBlock = v.ownBlock ∨ v'.ownBlock = some (w.heap.size + 1)) → wpList Tryz.prog ops Q rest (a.put o.dst v') w') :
    wpList Tryz.prog ops Q (o :: rest) a (w.alloc (.cells #[.int .i64 y] T' (0, 0))) := by
  subst hH
  refine wpList_append_rt hT hgd s x ho base v xs.length _ hs (hown.alloc _) _ 1 [.int .i64 y] hx (src_one w _ T' c) rfl (by simp [Value.oneCell']) (by unfold maxLen; omega) (by omega) (by simp; omega) ?_
  intro v' w' h1 h2 h3
  exact h v' w' (by simpa using h1) h2 (by simpa using h3)

end Go.Proofs.YtodmpcnpedpheaaGreatDoor

/- Depths and lengths of balanced texts, and the walk of balance.Concat. -/
set_option linter.unusedSimpArgs false
set_option linter.unusedVariables false
namespace Go.Proofs.YtodmpcnpedpheaaGreatDoor
open Go.RowKit

/-- The least length of a balanced text of a depth. -/
def lst : Nat → Nat
  | 0 => 1
  | 1 => 2
  | n + 2 => lst (n + 1) + lst n

theorem lst_pos : ∀ n, 1 ≤ lst n
  | 0 => by simp [lst]
  | 1 => by simp [lst]
  | n + 2 => by have := lst_pos (n + 1); simp only [lst]; omega
theorem lst_step (n : Nat) : lst n ≤ lst (n + 1) := by
  cases n with
  | zero => simp [lst]
  | succ n => simp only [lst]; omega
theorem lst_mono {a b : Nat} (h : a ≤ b) : lst a ≤ lst b := by
  induction b with
  | zero => have : a = 0 := by omega
            subst this; exact Nat.le_refl _
  | succ b ih =>
    by_cases e : a = b + 1
    · subst e; exact Nat.le_refl _
    · exact Nat.le_trans (ih (by omega)) (lst_step b)

theorem bal_lst {L : List Ent} (hd : DOk L) (hs : SOk L) : ∀ (n : Nat) (id : Int) (t : List Int) (d : Int), d.toNat < n → Bal L id t d → lst d.toNat ≤ t.length := by
  intro n
  induction n with
  | zero => intro id t d h; omega
  | succ n ih =>
    intro id t d hn hb
    have d0 : 0 ≤ d := by have := (hs.at id hb.known).2.1; rw [hb.depth] at this; exact this
    by_cases h : d = 0
    · have := bal_one hd hs hb h
      subst h
      rw [this]; exact Nat.le_refl _
    · obtain ⟨l, r, tl, tr, dl, dr, hru, hbl, hbr, hst, hdd, hd1, hd2⟩ := bal_parts hd hb (by omega)
      have dl0 : 0 ≤ dl := by have := (hs.at l hbl.known).2.1; rw [hbl.depth] at this; exact this
      have dr0 : 0 ≤ dr := by have := (hs.at r hbr.known).2.1; rw [hbr.depth] at this; exact this
      have i1 := ih l tl dl (by omega) hbl
      have i2 := ih r tr dr (by omega) hbr
      rw [hst, List.length_append]
      by_cases e : d = 1
      · have := lst_pos dl.toNat
        have := lst_pos dr.toNat
        subst e
        show 2 ≤ _
        omega
      · obtain ⟨m, hm⟩ : ∃ m : Nat, d.toNat = m + 2 := ⟨d.toNat - 2, by omega⟩
        rw [hm]
        simp only [lst]
        have h1 : lst m ≤ lst (min dl dr).toNat := lst_mono (by omega)
        have h2 : lst (m + 1) ≤ lst (max dl dr).toNat := lst_mono (by omega)
        by_cases c : dl ≤ dr
        · rw [show min dl dr = dl by omega] at h1
          rw [show max dl dr = dr by omega] at h2
          omega
        · rw [show min dl dr = dr by omega] at h1
          rw [show max dl dr = dl by omega] at h2
          omega

/-- A text that is shorter than the least one of depth D + 1 has at most depth D. -/
theorem BalZ.deep {L : List Ent} {id : Int} {t : List Int} {d : Int} (h : BalZ L id t d) (hd : DOk L) (hs : SOk L) {D : Nat} (hD : t.length < lst (D + 1)) : 0 ≤ d ∧ d ≤ D := by
  have d0 : 0 ≤ d := by have := (hs.at id h.known).2.1; rw [h.depth] at this; exact this
  refine ⟨d0, ?_⟩
  by_cases e : id = 0
  · have := (h.of0 e).2; omega
  · have h1 := bal_lst hd hs (d.toNat + 1) id t d (by omega) (h.bal e)
    by_cases c : d ≤ D
    · exact c
    · have : lst (D + 1) ≤ lst d.toNat := lst_mono (by omega)
      omega

/-- IDs of texts. -/
def AllB (L : List Ent) : List Int → List (List Int) → Prop
  | [], [] => True
  | id :: ids, t :: ts => (∃ d, BalZ L id t d) ∧ AllB L ids ts
  | _, _ => False

theorem AllB.len {L : List Ent} : ∀ {ids : List Int} {ts : List (List Int)}, AllB L ids ts → ids.length = ts.length
  | [], [], _ => rfl
  | _ :: ids, _ :: ts, h => by simp [AllB.len h.2]
theorem AllB.more {L L' : List Ent} {n : Nat} (hg : Grows L L' n) (hd : DOk L) : ∀ {ids : List Int} {ts : List (List Int)}, AllB L ids ts → AllB L' ids ts
  | [], [], _ => trivial
  | _ :: ids, _ :: ts, h => ⟨by obtain ⟨d, hb⟩ := h.1; exact ⟨d, hg.balz hd hb⟩, AllB.more hg hd h.2⟩
theorem AllB.snoc {L : List Ent} : ∀ {ids : List Int} {ts : List (List Int)}, AllB L ids ts → ∀ {id : Int} {t : List Int} {d : Int}, BalZ L id t d → AllB L (ids ++ [id]) (ts ++ [t])
  | [], [], _, _, _, _, hb => ⟨⟨_, hb⟩, trivial⟩
  | _ :: ids, _ :: ts, h, _, _, _, hb => ⟨h.1, AllB.snoc h.2 hb⟩
theorem AllB.append {L : List Ent} : ∀ {ids ids' : List Int} {ts ts' : List (List Int)}, AllB L ids ts → AllB L ids' ts' → AllB L (ids ++ ids') (ts ++ ts')
  | [], _, [], _, _, h' => h'
  | _ :: ids, _, _ :: ts, _, h, h' => ⟨h.1, AllB.append h.2 h'⟩

end Go.Proofs.YtodmpcnpedpheaaGreatDoor

/- The walk of split.Cut. -/
set_option linter.unusedSimpArgs false
set_option linter.unusedVariables false
namespace Go.Proofs.YtodmpcnpedpheaaGreatDoor
open Go.RowKit

/-- The k-th of the bounds of the parts. -/
def bnd (cs : List Int) (T : Int) (k : Nat) : Int := (0 :: (cs ++ [T])).getD k 0

theorem bnd_last (cs : List Int) (T : Int) : bnd cs T (cs.length + 1) = T := by
  unfold bnd
  rw [List.getD_cons_succ, List.getD_eq_getElem?_getD, List.getElem?_append_right (Nat.le_refl _)]
  simp

/-- The bounds do not decrease. -/
def Incr (cs : List Int) (T : Int) : Prop := ∀ k, k ≤ cs.length → bnd cs T k ≤ bnd cs T (k + 1)

theorem Incr.up {cs : List Int} {T : Int} (h : Incr cs T) : ∀ (j k : Nat), k + j = cs.length + 1 → bnd cs T k ≤ T
  | 0, k, hk => by
    have : k = cs.length + 1 := by omega
    subst this
    rw [bnd_last]; exact Int.le_refl _
  | j + 1, k, hk => by
    have := h.up j (k + 1) (by omega)
    have := h k (by omega)
    omega

end Go.Proofs.YtodmpcnpedpheaaGreatDoor

/- Lists of structs in memory, for any struct: reading and append. -/
set_option linter.unusedSimpArgs false
set_option linter.unusedVariables false
namespace Go.Proofs.YtodmpcnpedpheaaGreatDoor
open Go.RowKit

/-- The elements can be read at an address; their block lies below B, or is none of a store's. -/
def RG {α : Type} (vals : α → List Value) (size B : Nat) (w : World) (a : Option Addr) (xs : List α) : Prop :=
  ∀ i (h : i < xs.length), ∃ b off, a = some ⟨b, off, none⟩ ∧ b < w.heap.size ∧ (b < B ∨ ∃ cs t fr, w.heap[b]? = some (Obj.cells cs t fr) ∧ t ≠ 77 ∧ t ≠ 129) ∧
    ∀ j u, (vals xs[i])[j]? = some u → w.cell? ⟨b, off + i * size + j, none⟩ = some u

theorem RG.nil {α : Type} (vals : α → List Value) (size B : Nat) (w : World) (a : Option Addr) : RG vals size B w a [] := fun i h => by simp at h

theorem RG.kept0 {α : Type} {vals : α → List Value} {size B : Nat} {w w' : World} {a : Option Addr} {xs : List α} (h : RG vals size B w a xs) (hf : Fr0 w w') : RG vals size B w' a xs := by
  intro i hi
  obtain ⟨b, off, h1, h2, h3, h4⟩ := h i hi
  refine ⟨b, off, h1, by have := Fr.size hf; omega, ?_, fun j u hj => (hf.cell b _ h2).trans (h4 j u hj)⟩
  rcases h3 with h3 | ⟨cs, t, fr, g1, g2⟩
  · exact .inl h3
  · exact .inr ⟨cs, t, fr, hf.kept g1, g2⟩

theorem RG.keptK {α : Type} {vals : α → List Value} {size B mb : Nat} {w w' : World} {a : Option Addr} {xs : List α} (h : RG vals size B w a xs) (hf : Kp B mb w w') : RG vals size B w' a xs := by
  intro i hi
  obtain ⟨b, off, h1, h2, h3, h4⟩ := h i hi
  refine ⟨b, off, h1, by have := hf.size; omega, ?_, fun j u hj => ?_⟩
  · rcases h3 with h3 | ⟨cs, t, fr, g1, g2⟩
    · exact .inl h3
    · exact .inr ⟨cs, t, fr, hf.cells _ _ _ _ g1 g2.1 g2.2, g2⟩
  · rcases h3 with h3 | ⟨cs, t, fr, g1, g2⟩
    · rw [World.cell?_of_block (hf.low b h3 h2)]; exact h4 j u hj
    · have := h4 j u hj
      rw [cell_of_block g1] at this
      rw [cell_of_block (hf.cells _ _ _ _ g1 g2.1 g2.2)]; exact this

theorem RG.tail {α : Type} {vals : α → List Value} {size B : Nat} {w : World} {b off : Nat} {xs : List α} (h : RG vals size B w (some ⟨b, off, none⟩) xs) : RG vals size B w (some ⟨b, off + size, none⟩) (xs.drop 1) := by
  intro i hi
  have hi2 : 1 + i < xs.length := by rw [List.length_drop] at hi; omega
  obtain ⟨b', off', h1, h2, h3, h4⟩ := h (1 + i) hi2
  simp only [Option.some.injEq, Addr.mk.injEq, and_true] at h1
  obtain ⟨rfl, rfl⟩ := h1
  refine ⟨b, off + size, rfl, h2, h3, fun j u hj => ?_⟩
  rw [List.getElem_drop] at hj
  have := h4 j u hj
  rw [show off + size + i * size + j = off + (1 + i) * size + j by rw [Nat.add_mul, Nat.one_mul]; omega]
  exact this

/-- A slice that the call owns, read. -/
theorem rg_of_own {α : Type} {vals : α → List Value} {size B base : Nat} {T : TypeId} {w : World} {v : Value} {xs : List α} (hv : ∀ x ∈ xs, (vals x).length = size) (h : w.ownsRow base T size v xs.length (xs.flatMap vals)) (h1 : T ≠ 77) (h2 : T ≠ 129) :
    ∃ a cap, v = .slice a xs.length cap ∧ RG vals size B w a xs := by
  rcases h.2 with ⟨e1, e2⟩ | ⟨g, cap, cur, e1, _, hg, _, _, _, ht⟩
  · have : xs = [] := List.eq_nil_of_length_eq_zero e2
    subst this
    exact ⟨none, 0, e1, RG.nil _ _ _ _ _⟩
  · refine ⟨_, cap, e1, fun i hi => ⟨g, 0, rfl, lt_of_block hg, .inr ⟨cur, T, (0, 0), hg, h1, h2⟩, fun j u hj => ?_⟩⟩
    have hjs : j < size := by
      have := (List.getElem?_eq_some_iff.1 hj).1
      rw [hv _ (List.getElem_mem hi)] at this
      exact this
    have e := flat_get vals size xs hv i j hjs _ (List.getElem?_eq_getElem hi)
    have hlt : i * size + j < xs.length * size := by
      have : (i + 1) * size ≤ xs.length * size := Nat.mul_le_mul_right _ hi
      rw [Nat.add_mul, Nat.one_mul] at this
      omega
    have h3 := congrArg (fun l => l[i * size + j]?) ht
    rw [List.getElem?_take_of_lt (by omega)] at h3
    rw [cell_of_block hg, Nat.zero_add, ← Array.getElem?_toList, h3, e, hj]

/-- One element more in a slice of the call's own. -/
theorem wpList_pushG {α : Type} {vals : α → List Value} {ST T : TypeId} {size bytes : Nat} (hT : RT ST T size bytes) {w : World} {ops : Array Oper} {rest : List Oper} {o : Oper} {a : Act} {Q : Exit → Act → World → Prop} (hgd : o.guard = none) (s x : Operand)
    (ho : o.op = .call { callee := .builtin .append, args := #[s, x], argTypes := #[ST, ST] })
    (base : Nat) (v : Value) (xs : List α) (hs : a.eval s = v) (hown : w.ownsRow base T size v xs.length (xs.flatMap vals)) (hb : base ≤ w.heap.size) (T' : TypeId) (y : α) (cs : Array Value) (hcs : cs.toList = vals y) (hy : (vals y).length = size) (h1 : ∀ u ∈ vals y, u.oneCell' = true)
    (c H : Nat) (hH : w.heap.size = H) (hx : a.eval x = .slice (some ⟨H, 0, none⟩) 1 c) (hbytes : bytes ≤ 100) (hlen : xs.length ≤ 1000000)
    (h : ∀ v' w', w'.ownsRow base T size v' (xs ++ [y]).length ((xs ++ [y]).flatMap vals) → (w.alloc (.cells cs T' (0, 0))).grownBy w' v.ownBlock → (v'.ownBlock = v.ownBlock ∨ v'.ownBlock = some (w.heap.size + 1)) → wpList Tryz.prog ops Q rest (a.put o.dst v') w') :
    wpList Tryz.prog ops Q (o :: rest) a (w.alloc (.cells cs T' (0, 0))) := by
  subst hH
  have hby : (xs.length + 1) * bytes ≤ 140737488355328 := by
    have : (xs.length + 1) * bytes ≤ 1000001 * 100 := Nat.mul_le_mul (by omega) hbytes
    omega
  have hsrc : SrcAt (w.alloc (.cells cs T' (0, 0))) (.slice (some ⟨w.heap.size, 0, none⟩) 1 c) 1 (vals y) := by
    refine .inr ⟨_, c, rfl, fun j u hj => ?_⟩
    have h := World.news_of_block (cs := cs) (t := T') (fr := (0, 0)) (heap_alloc_new w (.cells cs T' (0, 0)))
    rw [← hcs] at hj
    exact h j u hj
  refine wpList_append_rt hT hgd s x ho base v xs.length _ hs (hown.alloc _) _ 1 (vals y) hx hsrc (by rw [hy]; omega) h1 (by unfold maxLen; omega) hby (by simp; omega) ?_
  intro v' w' h1 h2 h3
  exact h v' w' (by simpa using h1) h2 (by simpa using h3)

end Go.Proofs.YtodmpcnpedpheaaGreatDoor

/- A map from IDs to true, held exactly. -/
set_option linter.unusedSimpArgs false
set_option linter.unusedVariables false
namespace Go.Proofs.YtodmpcnpedpheaaGreatDoor
open Go.RowKit

def idEntries : Nat → List Int → List MapEntry
  | _, [] => []
  | i, x :: r => { key := .int .i64 x, val := .bool true, born := i } :: idEntries (i + 1) r

end Go.Proofs.YtodmpcnpedpheaaGreatDoor

/- Changes in memory, and the walk of patch.balanced. -/
set_option linter.unusedSimpArgs false
set_option linter.unusedVariables false
namespace Go.Proofs.YtodmpcnpedpheaaGreatDoor
open Go.RowKit

structure Chg where
  at_ : Int
  n : Int
  text : Int

/-- The changes lie at an address (if there are any). -/
def ChgsAt (w : World) (a : Option Addr) (cs : List Chg) : Prop :=
  ∀ i (h : i < cs.length), ∃ b off, a = some ⟨b, off, none⟩ ∧ b < w.heap.size ∧ w.cell? ⟨b, off + i * 3, none⟩ = some (.int .i64 cs[i].at_) ∧ w.cell? ⟨b, off + i * 3 + 1, none⟩ = some (.int .i64 cs[i].n) ∧ w.cell? ⟨b, off + i * 3 + 2, none⟩ = some (.int .i64 cs[i].text)

theorem ChgsAt.kept0 {w w' : World} {a : Option Addr} {cs : List Chg} (h : ChgsAt w a cs) (hf : Fr0 w w') : ChgsAt w' a cs := by
  intro i hi
  obtain ⟨b, off, h1, h2, h3, h4, h5⟩ := h i hi
  exact ⟨b, off, h1, by have := hf.size'; omega, (hf.cell b _ h2).trans h3, (hf.cell b _ h2).trans h4, (hf.cell b _ h2).trans h5⟩

end Go.Proofs.YtodmpcnpedpheaaGreatDoor

/- The walk of patch.Length. -/
set_option linter.unusedSimpArgs false
set_option linter.unusedVariables false
namespace Go.Proofs.YtodmpcnpedpheaaGreatDoor
open Go.RowKit

def sumN : List Chg → Int
  | [] => 0
  | c :: r => c.n + sumN r
def sumT (ln : Int → Int) : List Chg → Int
  | [] => 0
  | c :: r => ln c.text + sumT ln r

/-- The length of the text of an ID. -/
def lnL (L : List Ent) (id : Int) : Int := (entAt L id).wt.len

end Go.Proofs.YtodmpcnpedpheaaGreatDoor

/- The walks of access.halve and access.divide. -/
import Derived.Test.YtodmpcnpedpheaaDoorQAc0
import Derived.Test.YtodmpcnpedpheaaDoorQPx3
import Derived.BigRegion
import Derived.Deep.RegionHeld3
import Derived.Deep.AppendLies
set_option linter.unusedSimpArgs false
set_option linter.unusedVariables false
namespace Go.Proofs.YtodmpcnpedpheaaDoor
open Go.RowKit

/-- Elements more in a slice of the call's own. -/
theorem wpList_pushN {α : Type} {vals : α → List Value} {ST T : TypeId} {size bytes : Nat} (hT : RT ST T size bytes) {w : World} {ops : Array Oper} {rest : List Oper} {o : Oper} {a : Act} {Q : Exit → Act → World → Prop} (hgd : o.guard = none) (s x : Operand)
    (ho : o.op = .call { callee := .builtin .append, args := #[s, x], argTypes := #[ST, ST] })
    (base : Nat) (v : Value) (xs ys : List α) (hs : a.eval s = v) (hown : w.ownsRow base T size v xs.length (xs.flatMap vals)) (hb : base ≤ w.heap.size) (T' : TypeId) (cs : Array Value) (hcs : cs.toList = ys.flatMap vals) (hy : (ys.flatMap vals).length = ys.length * size) (h1 : ∀ u ∈ ys.flatMap vals, u.oneCell' = true)
    (c H n : Nat) (hn : n = ys.length) (hH : w.heap.size = H) (hx : a.eval x = .slice (some ⟨H, 0, none⟩) n c) (hbytes : bytes ≤ 100) (hlen : xs.length ≤ 1000000) (hyl : ys.length ≤ 10)
    (h : ∀ v' w', w'.ownsRow base T size v' (xs ++ ys).length ((xs ++ ys).flatMap vals) → (w.alloc (.cells cs T' (0, 0))).grownBy w' v.ownBlock → (v'.ownBlock = v.ownBlock ∨ v'.ownBlock = some (w.heap.size + 1)) → wpList Tryd.prog ops Q rest (a.put o.dst v') w') :
    wpList Tryd.prog ops Q (o :: rest) a (w.alloc (.cells cs T' (0, 0))) := by
  subst hH hn
  have hby : (xs.length + ys.length) * bytes ≤ 140737488355328 := by
    have : (xs.length + ys.length) * bytes ≤ 1000010 * 100 := Nat.mul_le_mul (by omega) hbytes
    omega
  have hsrc : SrcAt (w.alloc (.cells cs T' (0, 0))) (.slice (some ⟨w.heap.size, 0, none⟩) ys.length c) ys.length (ys.flatMap vals) := by
    refine .inr ⟨_, c, rfl, fun j u hj => ?_⟩
    have h := World.news_of_block (cs := cs) (t := T') (fr := (0, 0)) (heap_alloc_new w (.cells cs T' (0, 0)))
    rw [← hcs] at hj
    exact h j u hj
  refine wpList_append_rt hT hgd s x ho base v xs.length _ hs (hown.alloc _) _ ys.length (ys.flatMap vals) hx hsrc hy h1 (by unfold maxLen; omega) hby (by simp; omega) ?_
  intro v' w' h1 h2 h3
  exact h v' w' (by simpa using h1) h2 (by simpa using h3)

/-- A range's cells. -/
def spZ (s : Sp) : List Value := [.int .i64 s.id, .int .i64 s.from_, .int .i64 s.n, .int .i64 s.times]
theorem spZ_len (g : List Sp) : (g.flatMap spZ).length = g.length * 4 := flat_len spZ 4 g (fun _ _ => rfl)

theorem info_aspan : (Tryd.prog.info? 176).map (fun i => (i.zero, i.size, i.bytes)) = some (some (.agg #[.int .i64 0, .int .i64 0, .int .i64 0, .int .i64 0]), 4, 32) := by kernel_rfl
theorem rt_aspan : RT 177 176 4 32 := by
  obtain ⟨i, h1, h2, h3, h4⟩ := info_parts info_aspan
  exact ⟨by omega, i, _, by kernel_rfl, h1, h2, h3, h4, rfl⟩

theorem cells4s {w : World} {b : Nat} {x0 x1 x2 x3 : Value} {t : TypeId} (h : w.heap[b]? = some (.cells #[x0, x1, x2, x3] t (0, 0))) :
    w.cell? ⟨b, 0, none⟩ = some x0 ∧ w.cell? ⟨b, 1, none⟩ = some x1 ∧ w.cell? ⟨b, 2, none⟩ = some x2 ∧ w.cell? ⟨b, 3, none⟩ = some x3 ∧ (∀ o, w.frozen? ⟨b, o, none⟩ = false) ∧ b < w.heap.size :=
  ⟨by rw [cell_of_block h]; rfl, by rw [cell_of_block h]; rfl, by rw [cell_of_block h]; rfl, by rw [cell_of_block h]; rfl, fun o => frozen_of_block h o, lt_of_block h⟩

/-- What halve and divide leave. -/
def SpPost (base : Nat) (w : World) (v : Value) (ss : List Sp) (e : Ending) (w' : World) : Prop :=
  ∃ v', e = .returned v' ∧ w'.ownsRow base 176 4 v' ss.length (ss.flatMap spZ) ∧ Fr (fun k => v.ownBlock = some k) w w' ∧ (∀ k, v'.ownBlock = some k → v.ownBlock = some k ∨ w.heap.size ≤ k)

set_option maxRecDepth 100000 in
set_option maxHeartbeats 4000000 in
theorem ac_halve {base : Nat} {w : World} {v : Value} {ss : List Sp} (h : w.ownsRow base 176 4 v ss.length (ss.flatMap spZ)) (hb : base ≤ w.heap.size) (hn : ss.length ≤ 900000) (kd le l r tm : Int) (left : Nat) (s : Sp) (hl : left ≤ 1152921504606846976) (hf : s.from_ + s.n ≤ 1152921504606846976) (g : Nat) (hg : g = min (left - s.from_) s.n) :
    Calls Tryd.prog 90 #[v, .agg #[.int .i64 kd, .int .u8 le, .int .i64 l, .int .i64 r, .int .i64 tm], .int .i64 left, .agg #[.int .i64 s.id, .int .i64 s.from_, .int .i64 s.n, .int .i64 s.times]] w (SpPost base w v (ss ++ [⟨r, s.from_ - left, s.n - g, 1⟩, ⟨l, min s.from_ left, g, 1⟩])) := by
  obtain ⟨va, vc, rfl⟩ := owns_form h
  have H := Lib.hid h
  have q1 : IntKind.i64.wrap ((left : Int) - (s.from_ : Int)) = (left : Int) - (s.from_ : Int) := wrapI (by omega) (by omega)
  have q2 : IntKind.i64.wrap ((s.from_ : Int) - (left : Int)) = (s.from_ : Int) - (left : Int) := wrapI (by omega) (by omega)
  have q3 : IntKind.i64.wrap ((s.n : Int) - (g : Int)) = ((s.n - g : Nat) : Int) := by rw [show (s.n : Int) - (g : Int) = ((s.n - g : Nat) : Int) by omega]; exact wrapI (by omega) (by omega)
  have CC : Hid (∀ W, Calls Tryd.prog 23 #[.int .i64 ((left : Int) - (s.from_ : Int)), .int .i64 0, .int .i64 s.n] W fun e w' => e = .returned (.int .i64 (g : Nat)) ∧ W = w') := fun W => by
    refine (len_Clip ((left : Int) - (s.from_ : Int)) 0 s.n W).mono ?_
    rintro e w' ⟨rfl, rfl⟩
    refine ⟨?_, rfl⟩
    congr 2
    split
    · omega
    · split <;> omega
  have hgn : g ≤ s.n := by omega
  clear h hg
  go_enter Tryd.func90, Tryd.ntmps90
  go_wp2_with fail
  refine (CC.out _).mono ?_
  rintro e w1 ⟨rfl, rfl⟩
  have F2 : Fr0 w ((w.alloc (.cells #[.int .i64 kd, .int .u8 le, .int .i64 l, .int .i64 r, .int .i64 tm] 112 (0, 0))).alloc (.cells #[.int .i64 s.id, .int .i64 s.from_, .int .i64 s.n, .int .i64 s.times] 176 (0, 0))) := ((Fr0.refl w).alloc _).alloc _
  have b0 := alloc2_0 w (.cells #[.int .i64 kd, .int .u8 le, .int .i64 l, .int .i64 r, .int .i64 tm] 112 (0, 0)) (.cells #[.int .i64 s.id, .int .i64 s.from_, .int .i64 s.n, .int .i64 s.times] 176 (0, 0))
  have b1 := alloc2_1 w (.cells #[.int .i64 kd, .int .u8 le, .int .i64 l, .int .i64 r, .int .i64 tm] 112 (0, 0)) (.cells #[.int .i64 s.id, .int .i64 s.from_, .int .i64 s.n, .int .i64 s.times] 176 (0, 0))
  generalize (w.alloc (.cells #[.int .i64 kd, .int .u8 le, .int .i64 l, .int .i64 r, .int .i64 tm] 112 (0, 0))).alloc (.cells #[.int .i64 s.id, .int .i64 s.from_, .int .i64 s.n, .int .i64 s.times] 176 (0, 0)) = W2 at *
  obtain ⟨c0, c1, c2, c3, c4, lc⟩ := cells5 b0
  obtain ⟨d0, d1, d2, d3, df, ld⟩ := cells4s b1
  have hb2 : base ≤ W2.heap.size := Nat.le_trans hb (Fr.size F2)
  clear b0 b1
  by_cases k1 : (0 : Int) ≤ (s.from_ : Int) - (left : Int)
  · by_cases k2 : (s.from_ : Int) ≤ (left : Int)
    · skip
      go_wp2_with (at_builtin; refine wpList_pushN (vals := spZ) rt_aspan rfl _ _ rfl base (.slice va ss.length vc) ss [⟨r, s.from_ - left, s.n - g, 1⟩, ⟨l, min s.from_ left, g, 1⟩] rfl (F2.owns H.out) hb2 176 #[.int .i64 r, .int .i64 ((s.from_ : Int) - (left : Int)), .int .i64 ((s.n - g : Nat) : Int), .int .i64 1, .int .i64 l, .int .i64 ((s.from_ : Int)), .int .i64 (g : Nat), .int .i64 1] (by simp [spZ]; omega) rfl (by simp [spZ, Value.oneCell']) _ _ _ rfl rfl rfl (by omega) (by omega) (by simp) ?_; intro v' w4 hO4 hg4 hat4)
      go_ret
      exact ⟨v', rfl, hO4, Fr.grown (S := fun k => (Value.slice va ss.length vc).ownBlock = some k) (Fr0.fr (F2.alloc _)) hg4 (fun k hk _ => hk), fun k hk => hat4.elim (fun e => .inl (e.symm.trans hk)) (fun e => .inr (by have := Option.some.inj (e.symm.trans hk); have := Fr.size F2; omega))⟩
    · skip
      go_wp2_with (at_builtin; refine wpList_pushN (vals := spZ) rt_aspan rfl _ _ rfl base (.slice va ss.length vc) ss [⟨r, s.from_ - left, s.n - g, 1⟩, ⟨l, min s.from_ left, g, 1⟩] rfl (F2.owns H.out) hb2 176 #[.int .i64 r, .int .i64 ((s.from_ : Int) - (left : Int)), .int .i64 ((s.n - g : Nat) : Int), .int .i64 1, .int .i64 l, .int .i64 ((left : Int)), .int .i64 (g : Nat), .int .i64 1] (by simp [spZ]; omega) rfl (by simp [spZ, Value.oneCell']) _ _ _ rfl rfl rfl (by omega) (by omega) (by simp) ?_; intro v' w4 hO4 hg4 hat4)
      go_ret
      exact ⟨v', rfl, hO4, Fr.grown (S := fun k => (Value.slice va ss.length vc).ownBlock = some k) (Fr0.fr (F2.alloc _)) hg4 (fun k hk _ => hk), fun k hk => hat4.elim (fun e => .inl (e.symm.trans hk)) (fun e => .inr (by have := Option.some.inj (e.symm.trans hk); have := Fr.size F2; omega))⟩
  · by_cases k2 : (s.from_ : Int) ≤ (left : Int)
    · skip
      go_wp2_with (at_builtin; refine wpList_pushN (vals := spZ) rt_aspan rfl _ _ rfl base (.slice va ss.length vc) ss [⟨r, s.from_ - left, s.n - g, 1⟩, ⟨l, min s.from_ left, g, 1⟩] rfl (F2.owns H.out) hb2 176 #[.int .i64 r, .int .i64 (0), .int .i64 ((s.n - g : Nat) : Int), .int .i64 1, .int .i64 l, .int .i64 ((s.from_ : Int)), .int .i64 (g : Nat), .int .i64 1] (by simp [spZ]; omega) rfl (by simp [spZ, Value.oneCell']) _ _ _ rfl rfl rfl (by omega) (by omega) (by simp) ?_; intro v' w4 hO4 hg4 hat4)
      go_ret
      exact ⟨v', rfl, hO4, Fr.grown (S := fun k => (Value.slice va ss.length vc).ownBlock = some k) (Fr0.fr (F2.alloc _)) hg4 (fun k hk _ => hk), fun k hk => hat4.elim (fun e => .inl (e.symm.trans hk)) (fun e => .inr (by have := Option.some.inj (e.symm.trans hk); have := Fr.size F2; omega))⟩
    · omega

theorem step_pushN {α : Type} {vals : α → List Value} {ST T : TypeId} {size bytes : Nat} (hT : RT ST T size bytes) {w : World} {ops : Array Oper} {o : Oper} {a : Act} {K : Act → World → Prop} {Q : Exit → Act → World → Prop} {E : Prop} (hgd : o.guard = none) (s x : Operand)
    (ho : o.op = .call { callee := .builtin .append, args := #[s, x], argTypes := #[ST, ST] })
    (base : Nat) (v : Value) (xs ys : List α) (hs : a.eval s = v) (hown : w.ownsRow base T size v xs.length (xs.flatMap vals)) (hb : base ≤ w.heap.size) (T' : TypeId) (cs : Array Value) (hcs : cs.toList = ys.flatMap vals) (hy : (ys.flatMap vals).length = ys.length * size) (h1 : ∀ u ∈ ys.flatMap vals, u.oneCell' = true)
    (c H n : Nat) (hn : n = ys.length) (hn0 : 0 < n) (hH : w.heap.size = H) (hx : a.eval x = .slice (some ⟨H, 0, none⟩) n c) (hbytes : bytes ≤ 100) (hlen : xs.length ≤ 1000000) (hyl : ys.length ≤ 10)
    (h : ∀ g cap w', w'.ownsRow base T size (.slice (some ⟨g, 0, none⟩) (xs.length + n) cap) (xs ++ ys).length ((xs ++ ys).flatMap vals) → (w.alloc (.cells cs T' (0, 0))).drew.grownBy w' v.ownBlock → (v.ownBlock = some g ∨ g = w.heap.size + 1) → K (a.put o.dst (.slice (some ⟨g, 0, none⟩) (xs.length + n) cap)) w') :
    if Region.wanted o (yielded ops a.tmps) = true then Oper.wp Tryd.prog o a (w.alloc (.cells cs T' (0, 0))).drew K Q else E := by
  subst hH hn
  obtain ⟨hp, i, z, hu, hi, hz, hs', hby, hzs⟩ := hT
  have hby2 : (xs.length + ys.length) * bytes ≤ 140737488355328 := by
    have : (xs.length + ys.length) * bytes ≤ 1000010 * 100 := Nat.mul_le_mul (by omega) hbytes
    omega
  refine step_append_lies _ hgd s x ST ho base T i z size bytes hu hi hz hs' hby hzs hp v xs.length _ hs ((hown.alloc _).drew) ⟨w.heap.size, 0, none⟩ ys.length c (ys.flatMap vals) hx hy ?_ h1 hn0 (by unfold maxLen; omega) hby2 (by simp; omega) (w.heap.size + 1) (by simp) ?_
  · intro j u hj
    have h := World.news_of_block (cs := cs) (t := T') (fr := (0, 0)) (heap_alloc_new w (.cells cs T' (0, 0)))
    rw [← hcs] at hj
    exact h j u hj
  · intro g cap w' q1 q2 q3 q4
    exact h g cap w' (by simpa using q1) q2 q3

end Go.Proofs.YtodmpcnpedpheaaDoor

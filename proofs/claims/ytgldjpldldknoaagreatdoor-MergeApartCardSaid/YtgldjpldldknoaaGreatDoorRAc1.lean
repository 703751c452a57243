/- The walks of access.halve and access.divide. -/
import Derived.Test.YtgldjpldldknoaaGreatDoorRKy0
import Derived.Test.YtgldjpldldknoaaGreatDoorRPx3
import Derived.BigRegion
import Derived.Deep.RegionHeld3
import Derived.Deep.AppendLies
set_option linter.unusedSimpArgs false
set_option linter.unusedVariables false
namespace Go.Proofs.YtgldjpldldknoaaGreatDoor
open Go.RowKit
theorem wpList_pushN {α : Type} {vals : α → List Value} {ST T : TypeId} {size bytes : Nat} (hT : RT ST T size bytes) {w : World} {ops : Array Oper} {rest : List Oper} {o : Oper} {a : Act} {Q : Exit → Act → World → Prop} (hgd : o.guard = none) (s x : Operand)
    (ho : o.op = .call { callee := .builtin .append, args := #[s, x], argTypes := #[ST, ST] })
    (base : Nat) (v : Value) (xs ys : List α) (hs : a.eval s = v) (hown : w.ownsRow base T size v xs.length (xs.flatMap vals)) (hb : base ≤ w.heap.size) (T' : TypeId) (cs : Array Value) (hcs : cs.toList = ys.flatMap vals) (hy : (ys.flatMap vals).length = ys.length * size) (h1 : ∀ u ∈ ys.flatMap vals, u.oneCell' = true)
    (c H n : Nat) (hn : n = ys.length) (hH : w.heap.size = H) (hx : a.eval x = .slice (some ⟨H, 0, none⟩) n c) (hbytes : bytes ≤ 100) (hlen : xs.length ≤ 10000000000) (hyl : ys.length ≤ 10)
    (h : ∀ v' w', w'.ownsRow base T size v' (xs ++ ys).length ((xs ++ ys).flatMap vals) → (w.alloc (.cells cs T' (0, 0))).grownBy w' v.ownBlock → (v'.ownBlock = v.ownBlock ∨ v'.ownBlock = some (w.heap.size + 1)) → wpList Tryz.prog ops Q rest (a.put o.dst v') w') :
    wpList Tryz.prog ops Q (o :: rest) a (w.alloc (.cells cs T' (0, 0))) := by
 subst hH hn
 have hby : (xs.length + ys.length) * bytes ≤ 140737488355328 := by
  have : (xs.length + ys.length) * bytes ≤ 10000000010 * 100 := Nat.mul_le_mul (by omega) hbytes
  omega
 have hsrc : SrcAt (w.alloc (.cells cs T' (0, 0))) (.slice (some ⟨w.heap.size, 0, none⟩) ys.length c) ys.length (ys.flatMap vals) := by
  refine .inr ⟨_, c, rfl, fun j u hj => ?_⟩
  have h := World.news_of_block (cs := cs) (t := T') (fr := (0, 0)) (heap_alloc_new w (.cells cs T' (0, 0)))
  rw [← hcs] at hj
  exact h j u hj
 refine wpList_append_rt hT hgd s x ho base v xs.length _ hs (hown.alloc _) _ ys.length (ys.flatMap vals) hx hsrc hy h1 (by unfold maxLen; omega) hby (by simp; omega) ?_
 intro v' w' h1 h2 h3
 exact h v' w' (by simpa using h1) h2 (by simpa using h3)
def spZ (s : Sp) : List Value := [.int .i64 s.id, .int .i64 s.from_, .int .i64 s.n, .int .i64 s.times]
theorem spZ_len (g : List Sp) : (g.flatMap spZ).length = g.length * 4 := flat_len spZ 4 g (fun _ _ => rfl)
theorem info_aspan : (Tryz.prog.info? 177).map (fun i => (i.zero, i.size, i.bytes)) = some (some (.agg #[.int .i64 0, .int .i64 0, .int .i64 0, .int .i64 0]), 4, 32) := by kernel_rfl
theorem rt_aspan : RT 178 177 4 32 := by
 obtain ⟨i, h1, h2, h3, h4⟩ := info_parts info_aspan
 exact ⟨by omega, i, _, by kernel_rfl, h1, h2, h3, h4, rfl⟩
theorem cells4s {w : World} {b : Nat} {x0 x1 x2 x3 : Value} {t : TypeId} (h : w.heap[b]? = some (.cells #[x0, x1, x2, x3] t (0, 0))) :
    w.cell? ⟨b, 0, none⟩ = some x0 ∧ w.cell? ⟨b, 1, none⟩ = some x1 ∧ w.cell? ⟨b, 2, none⟩ = some x2 ∧ w.cell? ⟨b, 3, none⟩ = some x3 ∧ (∀ o, w.frozen? ⟨b, o, none⟩ = false) ∧ b < w.heap.size :=
 ⟨by rw [cell_of_block h]; rfl, by rw [cell_of_block h]; rfl, by rw [cell_of_block h]; rfl, by rw [cell_of_block h]; rfl, fun o => frozen_of_block h o, lt_of_block h⟩
def SpPost (base : Nat) (w : World) (v : Value) (ss : List Sp) (e : Ending) (w' : World) : Prop :=
 ∃ v', e = .returned v' ∧ w'.ownsRow base 177 4 v' ss.length (ss.flatMap spZ) ∧ Fr (fun k => v.ownBlock = some k) w w' ∧ (∀ k, v'.ownBlock = some k → v.ownBlock = some k ∨ w.heap.size ≤ k)
set_option maxRecDepth 100000 in
set_option maxHeartbeats 4000000 in
theorem ac_halve {base : Nat} {w : World} {v : Value} {ss : List Sp} (h : w.ownsRow base 177 4 v ss.length (ss.flatMap spZ)) (hb : base ≤ w.heap.size) (hn : ss.length ≤ 5000000000) (kd le l r tm : Int) (left : Nat) (s : Sp) (hl : left ≤ 1152921504606846976) (hf : s.from_ + s.n ≤ 1152921504606846976) (g : Nat) (hg : g = min (left - s.from_) s.n) :
    Calls Tryz.prog 99 #[v, .agg #[.int .i64 kd, .int .u8 le, .int .i64 l, .int .i64 r, .int .i64 tm], .int .i64 left, .agg #[.int .i64 s.id, .int .i64 s.from_, .int .i64 s.n, .int .i64 s.times]] w (SpPost base w v (ss ++ [⟨r, s.from_ - left, s.n - g, 1⟩, ⟨l, min s.from_ left, g, 1⟩])) := by
 obtain ⟨va, vc, rfl⟩ := owns_form h
 have H := Lib.hid h
 have q1 : IntKind.i64.wrap ((left : Int) - (s.from_ : Int)) = (left : Int) - (s.from_ : Int) := wrapI (by omega) (by omega)
 have q2 : IntKind.i64.wrap ((s.from_ : Int) - (left : Int)) = (s.from_ : Int) - (left : Int) := wrapI (by omega) (by omega)
 have q3 : IntKind.i64.wrap ((s.n : Int) - (g : Int)) = ((s.n - g : Nat) : Int) := by rw [show (s.n : Int) - (g : Int) = ((s.n - g : Nat) : Int) by omega]; exact wrapI (by omega) (by omega)
 have CC : Hid (∀ W, Calls Tryz.prog 33 #[.int .i64 ((left : Int) - (s.from_ : Int)), .int .i64 0, .int .i64 s.n] W fun e w' => e = .returned (.int .i64 (g : Nat)) ∧ W = w') := fun W => by
  refine (len_Clip ((left : Int) - (s.from_ : Int)) 0 s.n W).mono ?_
  rintro e w' ⟨rfl, rfl⟩
  refine ⟨?_, rfl⟩
  congr 2
  split
  · omega
  · split <;> omega
 have hgn : g ≤ s.n := by omega
 clear h hg
 go_enter Tryz.func99, Tryz.ntmps99
 go_wp2_with fail
 refine (CC.out _).mono ?_
 rintro e w1 ⟨rfl, rfl⟩
 have F2 : Fr0 w ((w.alloc (.cells #[.int .i64 kd, .int .u8 le, .int .i64 l, .int .i64 r, .int .i64 tm] 82 (0, 0))).alloc (.cells #[.int .i64 s.id, .int .i64 s.from_, .int .i64 s.n, .int .i64 s.times] 177 (0, 0))) := ((Fr0.refl w).alloc _).alloc _
 have b0 := alloc2_0 w (.cells #[.int .i64 kd, .int .u8 le, .int .i64 l, .int .i64 r, .int .i64 tm] 82 (0, 0)) (.cells #[.int .i64 s.id, .int .i64 s.from_, .int .i64 s.n, .int .i64 s.times] 177 (0, 0))
 have b1 := alloc2_1 w (.cells #[.int .i64 kd, .int .u8 le, .int .i64 l, .int .i64 r, .int .i64 tm] 82 (0, 0)) (.cells #[.int .i64 s.id, .int .i64 s.from_, .int .i64 s.n, .int .i64 s.times] 177 (0, 0))
 generalize (w.alloc (.cells #[.int .i64 kd, .int .u8 le, .int .i64 l, .int .i64 r, .int .i64 tm] 82 (0, 0))).alloc (.cells #[.int .i64 s.id, .int .i64 s.from_, .int .i64 s.n, .int .i64 s.times] 177 (0, 0)) = W2 at *
 obtain ⟨c0, c1, c2, c3, c4, lc⟩ := cells5 b0
 obtain ⟨d0, d1, d2, d3, df, ld⟩ := cells4s b1
 have hb2 : base ≤ W2.heap.size := Nat.le_trans hb (Fr.size F2)
 clear b0 b1
 by_cases k1 : (0 : Int) ≤ (s.from_ : Int) - (left : Int)
 · by_cases k2 : (s.from_ : Int) ≤ (left : Int)
   · skip
     go_wp2_with (at_builtin; refine wpList_pushN (vals := spZ) rt_aspan rfl _ _ rfl base (.slice va ss.length vc) ss [⟨r, s.from_ - left, s.n - g, 1⟩, ⟨l, min s.from_ left, g, 1⟩] rfl (F2.owns H.out) hb2 177 #[.int .i64 r, .int .i64 ((s.from_ : Int) - (left : Int)), .int .i64 ((s.n - g : Nat) : Int), .int .i64 1, .int .i64 l, .int .i64 ((s.from_ : Int)), .int .i64 (g : Nat), .int .i64 1] (by simp [spZ]; omega) rfl (by simp [spZ, Value.oneCell']) _ _ _ rfl rfl rfl (by omega) (by omega) (by simp) ?_; intro v' w4 hO4 hg4 hat4)
     go_ret
     exact ⟨v', rfl, hO4, Fr.grown (S := fun k => (Value.slice va ss.length vc).ownBlock = some k) (Fr0.fr (F2.alloc _)) hg4 (fun k hk _ => hk), fun k hk => hat4.elim (fun e => .inl (e.symm.trans hk)) (fun e => .inr (by have := Option.some.inj (e.symm.trans hk); have := Fr.size F2; omega))⟩
   · skip
     go_wp2_with (at_builtin; refine wpList_pushN (vals := spZ) rt_aspan rfl _ _ rfl base (.slice va ss.length vc) ss [⟨r, s.from_ - left, s.n - g, 1⟩, ⟨l, min s.from_ left, g, 1⟩] rfl (F2.owns H.out) hb2 177 #[.int .i64 r, .int .i64 ((s.from_ : Int) - (left : Int)), .int .i64 ((s.n - g : Nat) : Int), .int .i64 1, .int .i64 l, .int .i64 ((left : Int)), .int .i64 (g : Nat), .int .i64 1] (by simp [spZ]; omega) rfl (by simp [spZ, Value.oneCell']) _ _ _ rfl rfl rfl (by omega) (by omega) (by simp) ?_; intro v' w4 hO4 hg4 hat4)
     go_ret
     exact ⟨v', rfl, hO4, Fr.grown (S := fun k => (Value.slice va ss.length vc).ownBlock = some k) (Fr0.fr (F2.alloc _)) hg4 (fun k hk _ => hk), fun k hk => hat4.elim (fun e => .inl (e.symm.trans hk)) (fun e => .inr (by have := Option.some.inj (e.symm.trans hk); have := Fr.size F2; omega))⟩
 · by_cases k2 : (s.from_ : Int) ≤ (left : Int)
   · skip
     go_wp2_with (at_builtin; refine wpList_pushN (vals := spZ) rt_aspan rfl _ _ rfl base (.slice va ss.length vc) ss [⟨r, s.from_ - left, s.n - g, 1⟩, ⟨l, min s.from_ left, g, 1⟩] rfl (F2.owns H.out) hb2 177 #[.int .i64 r, .int .i64 (0), .int .i64 ((s.n - g : Nat) : Int), .int .i64 1, .int .i64 l, .int .i64 ((s.from_ : Int)), .int .i64 (g : Nat), .int .i64 1] (by simp [spZ]; omega) rfl (by simp [spZ, Value.oneCell']) _ _ _ rfl rfl rfl (by omega) (by omega) (by simp) ?_; intro v' w4 hO4 hg4 hat4)
     go_ret
     exact ⟨v', rfl, hO4, Fr.grown (S := fun k => (Value.slice va ss.length vc).ownBlock = some k) (Fr0.fr (F2.alloc _)) hg4 (fun k hk _ => hk), fun k hk => hat4.elim (fun e => .inl (e.symm.trans hk)) (fun e => .inr (by have := Option.some.inj (e.symm.trans hk); have := Fr.size F2; omega))⟩
   · omega
theorem step_pushN {α : Type} {vals : α → List Value} {ST T : TypeId} {size bytes : Nat} (hT : RT ST T size bytes) {w : World} {ops : Array Oper} {o : Oper} {a : Act} {K : Act → World → Prop} {Q : Exit → Act → World → Prop} {E : Prop} (hgd : o.guard = none) (s x : Operand)
    (ho : o.op = .call { callee := .builtin .append, args := #[s, x], argTypes := #[ST, ST] })
    (base : Nat) (v : Value) (xs ys : List α) (hs : a.eval s = v) (hown : w.ownsRow base T size v xs.length (xs.flatMap vals)) (hb : base ≤ w.heap.size) (T' : TypeId) (cs : Array Value) (hcs : cs.toList = ys.flatMap vals) (hy : (ys.flatMap vals).length = ys.length * size) (h1 : ∀ u ∈ ys.flatMap vals, u.oneCell' = true)
    (c H n : Nat) (hn : n = ys.length) (hn0 : 0 < n) (hH : w.heap.size = H) (hx : a.eval x = .slice (some ⟨H, 0, none⟩) n c) (hbytes : bytes ≤ 100) (hlen : xs.length ≤ 10000000000) (hyl : ys.length ≤ 10)
    (h : ∀ g cap w', w'.ownsRow base T size (.slice (some ⟨g, 0, none⟩) (xs.length + n) cap) (xs ++ ys).length ((xs ++ ys).flatMap vals) → (w.alloc (.cells cs T' (0, 0))).drew.grownBy w' v.ownBlock → (v.ownBlock = some g ∨ g = w.heap.size + 1) → K (a.put o.dst (.slice (some ⟨g, 0, none⟩) (xs.length + n) cap)) w') :
    if Region.wanted o (yielded ops a.tmps) = true then Oper.wp Tryz.prog o a (w.alloc (.cells cs T' (0, 0))).drew K Q else E := by
 subst hH hn
 obtain ⟨hp, i, z, hu, hi, hz, hs', hby, hzs⟩ := hT
 have hby2 : (xs.length + ys.length) * bytes ≤ 140737488355328 := by
  have : (xs.length + ys.length) * bytes ≤ 10000000010 * 100 := Nat.mul_le_mul (by omega) hbytes
  omega
 refine step_append_lies _ hgd s x ST ho base T i z size bytes hu hi hz hs' hby hzs hp v xs.length _ hs ((hown.alloc _).drew) ⟨w.heap.size, 0, none⟩ ys.length c (ys.flatMap vals) hx hy ?_ h1 hn0 (by unfold maxLen; omega) hby2 (by simp; omega) (w.heap.size + 1) (by simp) ?_
 · intro j u hj
   have h := World.news_of_block (cs := cs) (t := T') (fr := (0, 0)) (heap_alloc_new w (.cells cs T' (0, 0)))
   rw [← hcs] at hj
   exact h j u hj
 · intro g cap w' q1 q2 q3 q4
   exact h g cap w' (by simpa using q1) q2 q3
end Go.Proofs.YtgldjpldldknoaaGreatDoor
/- The walk of access.divide. -/
set_option linter.unusedSimpArgs false
set_option linter.unusedVariables false
namespace Go.Proofs.YtgldjpldldknoaaGreatDoor
open Go.RowKit
set_option maxRecDepth 100000 in
set_option maxHeartbeats 4000000 in
theorem ac_divide1 {base : Nat} {w : World} {v : Value} {ss : List Sp} (h : w.ownsRow base 177 4 v ss.length (ss.flatMap spZ)) (hb : base ≤ w.heap.size) (hn : ss.length ≤ 5000000000) (kd le l r tm : Int) (k : Nat) (s : Sp) (hk : 1 ≤ k) (hl : k ≤ 1152921504606846976) (hf : s.from_ + s.n ≤ 1152921504606846976) (f : Nat) (ef : f = s.from_ % k) (hfit : f + s.n ≤ k) :
    Calls Tryz.prog 100 #[v, .agg #[.int .i64 kd, .int .u8 le, .int .i64 l, .int .i64 r, .int .i64 tm], .int .i64 k, .agg #[.int .i64 s.id, .int .i64 s.from_, .int .i64 s.n, .int .i64 s.times]] w (SpPost base w v (ss ++ [⟨l, f, s.n, 1⟩])) := by
 obtain ⟨va, vc, rfl⟩ := owns_form h
 have H := Lib.hid h
 have q0 : ¬ (k = 0) := by omega
 have q1 : (s.from_ : Int) % (k : Int) = (f : Int) := by rw [ef, Int.natCast_emod]
 have q1b : (s.from_ : Int).tmod (k : Int) = (f : Int) := by rw [Int.tmod_eq_emod_of_nonneg (by omega), q1]
 have hfb : f ≤ 1152921504606846976 := by omega
 have q2 : IntKind.i64.wrap ((f : Int) + (s.n : Int)) = (f : Int) + (s.n : Int) := wrapI (by omega) (by omega)
 have q3 : decide ((f : Int) + (s.n : Int) ≤ (k : Int)) = true := decide_eq_true (by omega)
 have q4 : IntKind.i64.wrap (f : Int) = (f : Int) := wrapI (by omega) (by omega)
 clear h ef
 go_enter Tryz.func100, Tryz.ntmps100
 have F2 : Fr0 w ((w.alloc (.cells #[.int .i64 kd, .int .u8 le, .int .i64 l, .int .i64 r, .int .i64 tm] 82 (0, 0))).alloc (.cells #[.int .i64 s.id, .int .i64 s.from_, .int .i64 s.n, .int .i64 s.times] 177 (0, 0))) := ((Fr0.refl w).alloc _).alloc _
 have b0 := alloc2_0 w (.cells #[.int .i64 kd, .int .u8 le, .int .i64 l, .int .i64 r, .int .i64 tm] 82 (0, 0)) (.cells #[.int .i64 s.id, .int .i64 s.from_, .int .i64 s.n, .int .i64 s.times] 177 (0, 0))
 have b1 := alloc2_1 w (.cells #[.int .i64 kd, .int .u8 le, .int .i64 l, .int .i64 r, .int .i64 tm] 82 (0, 0)) (.cells #[.int .i64 s.id, .int .i64 s.from_, .int .i64 s.n, .int .i64 s.times] 177 (0, 0))
 go_upto_region 1 with fail
 generalize (w.alloc (.cells #[.int .i64 kd, .int .u8 le, .int .i64 l, .int .i64 r, .int .i64 tm] 82 (0, 0))).alloc (.cells #[.int .i64 s.id, .int .i64 s.from_, .int .i64 s.n, .int .i64 s.times] 177 (0, 0)) = W2 at *
 obtain ⟨c0, c1, c2, c3, c4, lc⟩ := cells5 b0
 obtain ⟨d0, d1, d2, d3, df, ld⟩ := cells4s b1
 have hb2 : base ≤ W2.heap.size := Nat.le_trans hb (Fr.size F2)
 clear b0 b1
 clear q1
 go_wp2_with (at_builtin; go_must (refine wpList_pushN (vals := spZ) rt_aspan rfl _ _ rfl base (.slice va ss.length vc) ss [⟨l, f, s.n, 1⟩] rfl (F2.owns H.out) hb2 177 #[.int .i64 l, .int .i64 (f : Nat), .int .i64 (s.n : Nat), .int .i64 1] (by simp [spZ]) rfl (by simp [spZ, Value.oneCell']) _ _ _ rfl rfl rfl (by omega) (by omega) (by simp) ?_); intro v' w4 hO4 hg4 hat4)
 go_ret
 exact ⟨v', rfl, hO4, Fr.grown (S := fun k => (Value.slice va ss.length vc).ownBlock = some k) (Fr0.fr (F2.alloc _)) hg4 (fun k hk _ => hk), fun k hk => hat4.elim (fun e => .inl (e.symm.trans hk)) (fun e => .inr (by have := Option.some.inj (e.symm.trans hk); have := Fr.size F2; omega))⟩
set_option maxRecDepth 100000 in
set_option maxHeartbeats 4000000 in
theorem ac_divide3 {base : Nat} {w : World} {v : Value} {ss : List Sp} (h : w.ownsRow base 177 4 v ss.length (ss.flatMap spZ)) (hb : base ≤ w.heap.size) (hn : ss.length ≤ 5000000000) (kd le l r tm : Int) (k : Nat) (s : Sp) (hk : 1 ≤ k) (hl : k ≤ 1152921504606846976) (hf : s.from_ + s.n ≤ 1152921504606846976) (f hd : Nat) (ef : f = s.from_ % k) (hfit : k < f + s.n) (ehd : hd = (k - f) % k) (hhd : hd ≤ s.n) :
    Calls Tryz.prog 100 #[v, .agg #[.int .i64 kd, .int .u8 le, .int .i64 l, .int .i64 r, .int .i64 tm], .int .i64 k, .agg #[.int .i64 s.id, .int .i64 s.from_, .int .i64 s.n, .int .i64 s.times]] w (SpPost base w v (ss ++ [⟨l, 0, (s.n - hd) % k, 1⟩, ⟨l, 0, k, (s.n - hd) / k⟩, ⟨l, f, hd, 1⟩])) := by
 obtain ⟨va, vc, rfl⟩ := owns_form h
 have H := Lib.hid h
 have hfk : f < k := by rw [ef]; exact Nat.mod_lt _ (by omega)
 have q0 : ¬ (k = 0) := by omega
 have q1 : (s.from_ : Int).tmod (k : Int) = (f : Int) := by rw [Int.tmod_eq_emod_of_nonneg (by omega), ef, Int.natCast_emod]
 have q2 : IntKind.i64.wrap ((f : Int) + (s.n : Int)) = (f : Int) + (s.n : Int) := wrapI (by omega) (by omega)
 have q3 : decide ((f : Int) + (s.n : Int) ≤ (k : Int)) = false := decide_eq_false (by omega)
 have q4 : IntKind.i64.wrap ((k : Int) - (f : Int)) = ((k - f : Nat) : Int) := by rw [show (k : Int) - (f : Int) = ((k - f : Nat) : Int) by omega]; exact wrapI (by omega) (by omega)
 obtain ⟨kf, hkf⟩ : ∃ kf, k - f = kf := ⟨_, rfl⟩
 rw [hkf] at q4 ehd
 have q5 : (kf : Int).tmod (k : Int) = (hd : Int) := by rw [Int.tmod_eq_emod_of_nonneg (by omega), ehd, Int.natCast_emod]
 obtain ⟨rs, hrs⟩ : ∃ rs, s.n - hd = rs := ⟨_, rfl⟩
 have q6 : IntKind.i64.wrap ((s.n : Int) - (hd : Int)) = (rs : Int) := by rw [show (s.n : Int) - (hd : Int) = (rs : Int) by omega]; exact wrapI (by omega) (by omega)
 rw [hrs]
 obtain ⟨rm, hrm⟩ : ∃ rm, rs % k = rm := ⟨_, rfl⟩
 obtain ⟨qt, hqt⟩ : ∃ qt, rs / k = qt := ⟨_, rfl⟩
 have q7 : (rs : Int).tmod (k : Int) = (rm : Int) := by rw [Int.tmod_eq_emod_of_nonneg (by omega), ← hrm, Int.natCast_emod]
 have hqb : qt ≤ rs := by rw [← hqt]; exact Nat.div_le_self _ _
 have q8 : (rs : Int).tdiv (k : Int) = (qt : Int) := by rw [Int.tdiv_eq_ediv_of_nonneg (by omega), ← hqt, Int.natCast_ediv]
 have q9 : IntKind.i64.wrap (qt : Int) = (qt : Int) := wrapI (by omega) (by omega)
 have hhk : hd < k := by rw [ehd]; exact Nat.mod_lt _ (by omega)
 have hrk : rm < k := by rw [← hrm]; exact Nat.mod_lt _ (by omega)
 have q10 : IntKind.i64.wrap ((rs : Int).tdiv (k : Int)) = (qt : Int) := by rw [q8, q9]
 rw [hrm, hqt]
 clear h ef ehd hkf hrs hrm hqt
 go_enter Tryz.func100, Tryz.ntmps100
 have F2 : Fr0 w ((w.alloc (.cells #[.int .i64 kd, .int .u8 le, .int .i64 l, .int .i64 r, .int .i64 tm] 82 (0, 0))).alloc (.cells #[.int .i64 s.id, .int .i64 s.from_, .int .i64 s.n, .int .i64 s.times] 177 (0, 0))) := ((Fr0.refl w).alloc _).alloc _
 have b0 := alloc2_0 w (.cells #[.int .i64 kd, .int .u8 le, .int .i64 l, .int .i64 r, .int .i64 tm] 82 (0, 0)) (.cells #[.int .i64 s.id, .int .i64 s.from_, .int .i64 s.n, .int .i64 s.times] 177 (0, 0))
 go_upto_region 6 with fail
 have b1 := alloc2_1 w (.cells #[.int .i64 kd, .int .u8 le, .int .i64 l, .int .i64 r, .int .i64 tm] 82 (0, 0)) (.cells #[.int .i64 s.id, .int .i64 s.from_, .int .i64 s.n, .int .i64 s.times] 177 (0, 0))
 generalize (w.alloc (.cells #[.int .i64 kd, .int .u8 le, .int .i64 l, .int .i64 r, .int .i64 tm] 82 (0, 0))).alloc (.cells #[.int .i64 s.id, .int .i64 s.from_, .int .i64 s.n, .int .i64 s.times] 177 (0, 0)) = W2 at *
 obtain ⟨c0, c1, c2, c3, c4, lc⟩ := cells5 b0
 have hb2 : base ≤ W2.heap.size := Nat.le_trans hb (Fr.size F2)
 have HR2 := Lib.hid (F2.owns H.out)
 have HF2 := Lib.hid F2
 clear b0 b1 F2 q1 q2 q3 q4 q5 q6 H hfk
 go_region_law ((refine step_pushN (vals := spZ) rt_aspan (by rfl) _ _ (by rfl) base (.slice va ss.length vc) ss [⟨l, 0, rm, 1⟩, ⟨l, 0, k, qt⟩, ⟨l, f, hd, 1⟩] (by rfl) HR2.out hb2 177 #[.int .i64 l, .int .i64 0, .int .i64 (rm : Nat), .int .i64 1, .int .i64 l, .int .i64 0, .int .i64 (k : Nat), .int .i64 (qt : Nat), .int .i64 l, .int .i64 (f : Nat), .int .i64 (hd : Nat), .int .i64 1] (by simp [spZ]) (by rfl) (by simp [spZ, Value.oneCell']) 3 W2.heap.size 3 (by rfl) (by omega) (by rfl) (by rfl) (by omega) (by omega) (by simp) ?_; intro g gcap w4 hO4 hg4 hat4))
 all_goals
  have HO4 := Lib.hid hO4
  have HG4 := Lib.hid hg4
  have HT4 := Lib.hid hat4
  clear hO4 hg4 hat4
  go_wp2_with fail
  go_ret
  exact ⟨_, rfl, HO4.out, Fr.grown (S := fun k => (Value.slice va ss.length vc).ownBlock = some k) (Fr0.fr ((HF2.out.alloc _).drew)) HG4.out (fun k hk _ => hk), fun z hk => HT4.out.elim (fun e => .inl (e.trans hk)) (fun e => .inr (by have h5 : g = z := Option.some.inj hk; have h6 := Fr.size HF2.out; omega))⟩
end Go.Proofs.YtgldjpldldknoaaGreatDoor

/- The walks of evergreenbase.Num and Is. -/
import Derived.Test.YtodmpcnpedpheaaGreatDoorQSpl1
import Derived.Test.YtodmpcnpedpheaaGreatDoorQBase
import Derived.Test.YtodmpcnpedpheaaGreatDoorQPp1
import Derived.Laws.StructEq
import Derived.Deep.QuietTactic
import Derived.BigQuiet
import Derived.Deep.RegionHeld3
set_option linter.unusedSimpArgs false
set_option linter.unusedVariables false
namespace Go.Proofs.YtodmpcnpedpheaaGreatDoor
open Go.RowKit

@[go_sem] theorem assert_errno (n : Int) (w : World) : (Instr.typeAssert (.iface 43 (.int .i64 n)) 49 43 true).run Tryz.prog w = .ok (.tuple #[.int .i64 n, .bool true]) w := by kernel_rfl

set_option maxRecDepth 100000 in
set_option maxHeartbeats 400000 in
theorem base_Num (n : Int) (w : World) :
    Calls Tryz.prog 36 #[.iface 43 (.int .i64 n)] w fun e w' => e = .returned (.int .i64 n) ∧ w = w' := by
  go_enter Tryz.func36, Tryz.ntmps36
  go_wp2_with fail
  go_ret
  exact ⟨rfl, rfl⟩

set_option maxRecDepth 100000 in
set_option maxHeartbeats 400000 in
theorem base_Is (n : Int) (w : World) (hn : n ≠ 0) :
    Calls Tryz.prog 15 #[.iface 43 (.int .i64 n), .int .i64 n] w fun e w' => e = .returned (.bool true) ∧ w = w' := by
  have h1 : (n == n) = true := by simp
  have h2 : (n != 0) = true := by simpa using hn
  go_enter Tryz.func15, Tryz.ntmps15
  go_wp2_with fail
  refine (base_Num _ _).mono ?_
  rintro e w' ⟨rfl, rfl⟩
  go_wp2_with fail
  go_ret
  exact ⟨by simp, rfl⟩

end Go.Proofs.YtodmpcnpedpheaaGreatDoor

/- 'append(append([]T{}, xs...), y)' in a region that draws its order: one chain of four operations. -/
set_option linter.unusedSimpArgs false
set_option linter.unusedVariables false
namespace Go.Proofs.YtodmpcnpedpheaaGreatDoor
open Go.RowKit

theorem wp_append_rt {ST T : TypeId} {size bytes : Nat} (hT : RT ST T size bytes) {w : World} {o : Oper} {a : Act} {K : Act → World → Prop} {Q : Exit → Act → World → Prop} (s x : Operand)
    (ho : o.op = .call { callee := .builtin .append, args := #[s, x], argTypes := #[ST, ST] })
    (B : Nat) (v : Value) (n : Nat) (xs : List Value) (hs : a.eval s = v) (hown : w.ownsRow B T size v n xs) (src : Value) (m : Nat) (news : List Value) (hx : a.eval x = src) (hsrc : SrcAt w src m news)
    (hl : news.length = m * size) (h1 : ∀ u ∈ news, u.oneCell' = true) (h63 : n + m ≤ maxLen) (hb : (n + m) * bytes ≤ 140737488355328) (hB : B ≤ w.heap.size)
    (h : ∀ v' w', w'.ownsRow B T size v' (n + m) (xs ++ news) → w.grownBy w' v.ownBlock → (v'.ownBlock = v.ownBlock ∨ v'.ownBlock = some w.heap.size) → K (a.put o.dst v') w') : Oper.wp Tryz.prog o a w K Q := by
  obtain ⟨v', w', hr, h2, h3, h4⟩ := run_append_rt hT w o.type B v n xs hown src m news hsrc hl h1 h63 hb hB
  unfold Oper.wp execOp
  simp only [ho, resolve, invoke, builtin, Sem.run_bind, Sem.run_pure, Result.andThen_ok, List.map_toArray, List.map_cons, List.map_nil, hs, hx, hr]
  exact h v' w' h2 h3 h4

/-- What is known of a chain: p: the empty slice; q: with xs; r: the slice of y; z: the whole. -/
structure Ch (T : TypeId) (size base : Nat) (p q r z : Bool) (vp vq vr vz : Value) (w : World) (n : Nat) (xs ys : List Value) : Prop where
  cp : p = true → q = false → w.ownsRow base T size vp 0 []
  cq : q = true → z = false → w.ownsRow base T size vq n xs
  cr : r = true → z = false → ∃ g, vr = .slice (some ⟨g, 0, none⟩) 1 1 ∧ w.heap[g]? = some (.cells ys.toArray T (0, 0))
  np : p = true → q = false → r = true → z = false → vp.ownBlock ≠ vr.ownBlock
  nq : q = true → r = true → z = false → vq.ownBlock ≠ vr.ownBlock
  cz : z = true → w.ownsRow base T size vz (n + 1) (xs ++ ys)
  qp : q = true → p = true
  zq : z = true → q = true ∧ r = true

theorem Ch.start (T : TypeId) (size base : Nat) (vp vq vr vz : Value) (w : World) (n : Nat) (xs ys : List Value) : Ch T size base false false false false vp vq vr vz w n xs ys := by
  constructor <;> intro h <;> cases h

/-- Nothing of the chain's has changed. -/
theorem Ch.kept {T : TypeId} {size base : Nat} {p q r z : Bool} {vp vq vr vz : Value} {w w' : World} {n : Nat} {xs ys : List Value} (h : Ch T size base p q r z vp vq vr vz w n xs ys) {S : Nat → Prop} (hf : Fr S w w') (hS : ∀ k cur, w.heap[k]? = some (.cells cur T (0, 0)) → ¬ S k) : Ch T size base p q r z vp vq vr vz w' n xs ys := by
  have ho : ∀ {v : Value} {m : Nat} {us : List Value}, w.ownsRow base T size v m us → w'.ownsRow base T size v m us := by
    intro v m us ho
    refine hf.owns ho ?_
    intro k hk
    obtain ⟨cur, hc⟩ := owns_block ho hk
    exact hS k cur hc
  refine ⟨fun a b => ho (h.cp a b), fun a b => ho (h.cq a b), fun a b => ?_, h.np, h.nq, fun a => ho (h.cz a), h.qp, h.zq⟩
  obtain ⟨g, h1, h2⟩ := h.cr a b
  exact ⟨g, h1, hf.kept h2 (hS g _ h2)⟩

theorem Ch.alloc {T : TypeId} {size base : Nat} {p q r z : Bool} {vp vq vr vz : Value} {w : World} {n : Nat} {xs ys : List Value} (h : Ch T size base p q r z vp vq vr vz w n xs ys) (o : Obj) : Ch T size base p q r z vp vq vr vz (w.alloc o) n xs ys := h.kept (S := fun _ => False) ((Fr.refl _ w).alloc o) (fun _ _ _ h => h)

/-- The empty slice. -/
theorem Ch.stepP {T : TypeId} {size base : Nat} {p q r z : Bool} {vp vq vr vz : Value} {w : World} {n : Nat} {xs ys : List Value} (h : Ch T size base p q r z vp vq vr vz w n xs ys) (hp0 : p = false) (hb : base ≤ w.heap.size) : Ch T size base true q r z (.slice (some ⟨w.heap.size, 0, none⟩) 0 0) vq vr vz (w.alloc (.cells #[] T (0, 0))) n xs ys := by
  subst hp0
  obtain rfl : q = false := by
    cases q with
    | false => rfl
    | true => exact (h.qp rfl).symm
  obtain rfl : z = false := by
    cases z with
    | false => rfl
    | true => exact (h.zq rfl).1.symm
  have h2 := h.alloc (.cells #[] T (0, 0))
  refine ⟨fun _ _ => ⟨by simp, .inr ⟨w.heap.size, 0, #[], rfl, hb, alloc_at _ _ _ rfl, Nat.le_refl _, Nat.zero_le _, by simp, by simp⟩⟩, fun a => (by cases a), h2.cr, fun _ _ hr hz => ?_, fun a => (by cases a), fun a => (by cases a), fun a => (by cases a), fun a => (by cases a)⟩
  obtain ⟨g, h3, h4⟩ := h.cr hr hz
  have := lt_of_block h4
  rw [h3]
  simp only [Value.ownBlock, ne_eq, Option.some.injEq]
  omega

/-- The slice of y. -/
theorem Ch.stepR {T : TypeId} {size base : Nat} {p q r z : Bool} {vp vq vr vz : Value} {w : World} {n : Nat} {xs ys : List Value} (h : Ch T size base p q r z vp vq vr vz w n xs ys) (hr0 : r = false) : Ch T size base p q true z vp vq (.slice (some ⟨w.heap.size, 0, none⟩) 1 1) vz (w.alloc (.cells ys.toArray T (0, 0))) n xs ys := by
  subst hr0
  obtain rfl : z = false := by
    cases z with
    | false => rfl
    | true => exact (h.zq rfl).2.symm
  have h2 := h.alloc (.cells ys.toArray T (0, 0))
  refine ⟨h2.cp, h2.cq, fun _ _ => ⟨w.heap.size, rfl, alloc_at _ _ _ rfl⟩, fun hp hq _ _ e => ?_, fun hq _ hz e => ?_, fun a => (by cases a), h.qp, fun a => (by cases a)⟩
  · exact Nat.lt_irrefl _ ((h.cp hp hq).lt _ e).2
  · exact Nat.lt_irrefl _ ((h.cq hq hz).lt _ e).2

theorem grown_fr {w w' : World} {row : Option Nat} (h : w.grownBy w' row) : Fr (fun k => row = some k) w w' := Fr.grown (Fr.refl _ w) h (fun k hk _ => hk)

/-- xs is appended. -/
theorem Ch.stepQ {T : TypeId} {size base : Nat} {p q r z : Bool} {vp vq vr vz v' : Value} {w w' : World} {n : Nat} {xs ys : List Value} (h : Ch T size base p q r z vp vq vr vz w n xs ys) (hp0 : p = true) (hq0 : q = false) (h1 : w'.ownsRow base T size v' (0 + n) ([] ++ xs)) (hg : w.grownBy w' vp.ownBlock) (ha : v'.ownBlock = vp.ownBlock ∨ v'.ownBlock = some w.heap.size) : Ch T size base p true r z vp v' vr vz w' n xs ys := by
  subst hp0 hq0
  obtain rfl : z = false := by
    cases z with
    | false => rfl
    | true => exact (h.zq rfl).1.symm
  have hf := grown_fr hg
  have hcr : r = true → ∃ g, vr = .slice (some ⟨g, 0, none⟩) 1 1 ∧ w'.heap[g]? = some (.cells ys.toArray T (0, 0)) ∧ g < w.heap.size := by
    intro hr
    obtain ⟨g, h3, h4⟩ := h.cr hr rfl
    have hne := h.np rfl rfl hr rfl
    rw [h3] at hne
    exact ⟨g, h3, hf.kept h4 hne, lt_of_block h4⟩
  refine ⟨fun _ a => (by cases a), fun _ _ => by simpa using h1, fun hr _ => ?_, fun _ a => (by cases a), fun _ hr _ => ?_, fun a => (by cases a), fun _ => rfl, fun a => (by cases a)⟩
  · obtain ⟨g, h3, h4, _⟩ := hcr hr
    exact ⟨g, h3, h4⟩
  · obtain ⟨g, h3, h4, h5⟩ := hcr hr
    rcases ha with ha | ha
    · rw [ha]; exact h.np rfl rfl hr rfl
    · rw [ha, h3]
      simp only [Value.ownBlock, ne_eq, Option.some.injEq]
      omega

/-- y is appended. -/
theorem Ch.stepZ {T : TypeId} {size base : Nat} {p q r z : Bool} {vp vq vr vz v' : Value} {w w' : World} {n : Nat} {xs ys : List Value} (h : Ch T size base p q r z vp vq vr vz w n xs ys) (hq0 : q = true) (hr0 : r = true) (h1 : w'.ownsRow base T size v' (n + 1) (xs ++ ys)) : Ch T size base p q r true vp vq vr v' w' n xs ys := by
  subst hq0 hr0
  exact ⟨fun _ a => (by cases a), fun _ a => (by cases a), fun _ a => (by cases a), fun _ a => (by cases a), fun _ _ a => (by cases a), fun _ => h1, h.qp, fun _ => ⟨rfl, rfl⟩⟩

end Go.Proofs.YtodmpcnpedpheaaGreatDoor

/- The reference's store in memory; what is known in the last region of evergreenref12.Add. -/
set_option linter.unusedSimpArgs false
set_option linter.unusedVariables false
namespace Go.Proofs.YtodmpcnpedpheaaGreatDoor
open Go.RowKit

def rlv (e : Ent) : List Value := e.rule.vals
def lnv (e : Ent) : List Value := [.int .i64 e.wt.len]

/-- A store of the reference, by value: the rules and the lengths of the entries. -/
structure RSt (w : World) (va vb : Value) (L : List Ent) : Prop where
  ru : ∃ a cap, va = .slice a L.length cap ∧ RG rlv 5 0 w a L ∧ (a = none → cap = 0)
  le : ∃ a cap, vb = .slice a L.length cap ∧ RG lnv 1 0 w a L ∧ (a = none → cap = 0)
  ty1 : ∀ ad n c, va = .slice (some ad) n c → ∃ cs f, w.heap[ad.block]? = some (Obj.cells cs 42 f)
  ty2 : ∀ ad n c, vb = .slice (some ad) n c → ∃ cs f, w.heap[ad.block]? = some (Obj.cells cs 3 f)

theorem RSt.kept0 {w w' : World} {va vb : Value} {L : List Ent} (h : RSt w va vb L) (hf : Fr0 w w') : RSt w' va vb L := by
  obtain ⟨⟨a, c, h1, h2, h5⟩, ⟨b, d, h3, h4, h6⟩, t1, t2⟩ := h
  refine ⟨⟨a, c, h1, h2.kept0 hf, h5⟩, ⟨b, d, h3, h4.kept0 hf, h6⟩, fun ad n c h => ?_, fun ad n c h => ?_⟩
  · obtain ⟨cs, f, h7⟩ := t1 ad n c h
    exact ⟨cs, f, hf.kept h7⟩
  · obtain ⟨cs, f, h7⟩ := t2 ad n c h
    exact ⟨cs, f, hf.kept h7⟩
theorem RSt.nil (w : World) : RSt w (.slice none 0 0) (.slice none 0 0) [] :=
  ⟨⟨none, 0, rfl, RG.nil _ _ _ _ _, fun _ => rfl⟩, ⟨none, 0, rfl, RG.nil _ _ _ _ _, fun _ => rfl⟩, (fun _ _ _ h => by cases h), (fun _ _ _ h => by cases h)⟩

/-- Blocks of other types than those of the rules and the lengths are written. -/
theorem RSt.fr {w w' : World} {va vb : Value} {L : List Ent} (h : RSt w va vb L) {S : Nat → Prop} (hf : Fr S w w') (h1 : ∀ k cur f, w.heap[k]? = some (.cells cur 42 f) → ¬ S k) (h2 : ∀ k cur f, w.heap[k]? = some (.cells cur 3 f) → ¬ S k) : RSt w' va vb L := by
  obtain ⟨⟨a, c, rfl, g2, h5⟩, ⟨b, d, rfl, h4, h6⟩, t1, t2⟩ := h
  have n1 : ∀ ad, a = some ad → ¬ S ad.block := by
    rintro ad rfl
    obtain ⟨cs, f, h7⟩ := t1 _ _ _ rfl
    exact h1 _ _ _ h7
  have n2 : ∀ ad, b = some ad → ¬ S ad.block := by
    rintro ad rfl
    obtain ⟨cs, f, h7⟩ := t2 _ _ _ rfl
    exact h2 _ _ _ h7
  have key : ∀ {α : Type} {vals : α → List Value} {size : Nat} {ad : Option Addr} {xs : List α}, (∀ x, ad = some x → ¬ S x.block) → RG vals size 0 w ad xs → RG vals size 0 w' ad xs := by
    intro α vals size ad xs hn hr i hi
    obtain ⟨bb, off, rfl, q2, q3, q4⟩ := hr i hi
    have hne : ¬ S bb := hn _ rfl
    refine ⟨bb, off, rfl, by have := hf.size; omega, ?_, fun j u hj => (hf.cell _ q2 hne).trans (q4 j u hj)⟩
    rcases q3 with q3 | ⟨cs, t, fr, g1, g2⟩
    · exact .inl q3
    · exact .inr ⟨cs, t, fr, hf.kept g1 hne, g2⟩
  refine ⟨⟨a, c, rfl, key n1 g2, h5⟩, ⟨b, d, rfl, key n2 h4, h6⟩, fun ad n c h => ?_, fun ad n c h => ?_⟩
  · obtain ⟨cs, f, h7⟩ := t1 ad n c h
    exact ⟨cs, f, hf.kept h7 (by cases h; exact n1 _ rfl)⟩
  · obtain ⟨cs, f, h7⟩ := t2 ad n c h
    exact ⟨cs, f, hf.kept h7 (by cases h; exact n2 _ rfl)⟩

/-- A cell of a block of the reference's own Store type is written. -/
theorem RSt.set {w : World} {va vb : Value} {L : List Ent} (h : RSt w va vb L) {Z : Nat} {cs : Array Value} (hz : w.heap[Z]? = some (.cells cs 35 (0, 0))) (o : Nat) (u : Value) : RSt (w.setCell ⟨Z, o, none⟩ u) va vb L :=
  h.fr (S := fun k => k = Z) ((Fr.refl (fun k => k = Z) w).setCell _ _ (fun _ => rfl)) (fun k cur f hk => ne_of_types hk hz (by decide)) (fun k cur f hk => ne_of_types hk hz (by decide))

theorem add_offA (b o j : Nat) : (⟨b, o, none⟩ : Addr).add j = ⟨b, o + j, none⟩ := by
  unfold Addr.add
  split
  · next e => rw [e, Nat.add_zero]
  · rfl

theorem src_rg {α : Type} {vals : α → List Value} {size B : Nat} {w : World} {a : Option Addr} {xs : List α} {cap : Nat} (h : RG vals size B w a xs) (hv : ∀ x ∈ xs, (vals x).length = size) (hs : 0 < size) (hn : a = none → cap = 0) : SrcAt w (.slice a xs.length cap) xs.length (xs.flatMap vals) := by
  by_cases h0 : xs.length = 0
  · obtain rfl : xs = [] := List.eq_nil_of_length_eq_zero h0
    cases a with
    | none =>
      obtain rfl := hn rfl
      exact .inl ⟨rfl, rfl, rfl⟩
    | some ad => exact .inr ⟨ad, cap, rfl, fun j u hj => by simp at hj⟩
  · obtain ⟨b, off, rfl, _⟩ := h 0 (by omega)
    refine .inr ⟨_, cap, rfl, fun j u hj => ?_⟩
    have hlen := flat_len vals size xs hv
    have hj2 := (List.getElem?_eq_some_iff.1 hj).1
    have hi : j / size < xs.length := Nat.div_lt_of_lt_mul (by rw [Nat.mul_comm]; omega)
    have hr : j % size < size := Nat.mod_lt _ hs
    have e := flat_get vals size xs hv (j / size) (j % size) hr _ (List.getElem?_eq_getElem hi)
    rw [Nat.mul_comm, Nat.div_add_mod] at e
    rw [e] at hj
    obtain ⟨b', off', h1, _, _, h4⟩ := h (j / size) hi
    simp only [Option.some.injEq, Addr.mk.injEq, and_true] at h1
    obtain ⟨rfl, rfl⟩ := h1
    have := h4 _ u hj
    rw [show b = b from rfl] at this
    unfold Addr.add
    split
    · next hz =>
      subst hz
      simpa using this
    · rw [show off + j = off + j / size * size + j % size by rw [Nat.add_assoc, Nat.mul_comm, Nat.div_add_mod]]
      exact this

theorem cells2f {w : World} {b : Nat} {x0 x1 : Value} {t : TypeId} (h : w.heap[b]? = some (.cells #[x0, x1] t (0, 0))) : w.cell? ⟨b, 0, none⟩ = some x0 ∧ w.cell? ⟨b, 1, none⟩ = some x1 ∧ (∀ o, w.frozen? ⟨b, o, none⟩ = false) ∧ b < w.heap.size :=
  ⟨by rw [cell_of_block h]; rfl, by rw [cell_of_block h]; rfl, fun o => frozen_of_block h o, lt_of_block h⟩
theorem cells2w {w : World} {b : Nat} {x0 x1 : Value} {t : TypeId} (h : w.heap[b]? = some (.cells #[x0, x1] t (0, 0))) : w.cell? ⟨b, 0, none⟩ = some x0 ∧ w.cell? ⟨b, 1, none⟩ = some x1 ∧ b < w.heap.size :=
  ⟨by rw [cell_of_block h]; rfl, by rw [cell_of_block h]; rfl, lt_of_block h⟩
theorem cells5w' {w : World} {b : Nat} {x0 x1 x2 x3 x4 : Value} {t : TypeId} (h : w.heap[b]? = some (.cells #[x0, x1, x2, x3, x4] t (0, 0))) :
    w.cell? ⟨b, 0, none⟩ = some x0 ∧ w.cell? ⟨b, 1, none⟩ = some x1 ∧ w.cell? ⟨b, 2, none⟩ = some x2 ∧ w.cell? ⟨b, 3, none⟩ = some x3 ∧ w.cell? ⟨b, 4, none⟩ = some x4 ∧ b < w.heap.size :=
  ⟨by rw [cell_of_block h]; rfl, by rw [cell_of_block h]; rfl, by rw [cell_of_block h]; rfl, by rw [cell_of_block h]; rfl, by rw [cell_of_block h]; rfl, lt_of_block h⟩

theorem info_rule : (Tryz.prog.info? 42).map (fun i => (i.zero, i.size, i.bytes)) = some (some (.agg #[.int .i64 0, .int .u8 0, .int .i64 0, .int .i64 0, .int .i64 0]), 5, 40) := by kernel_rfl
theorem rt_rule : RT 32 42 5 40 := by
  obtain ⟨i, h1, h2, h3, h4⟩ := info_parts info_rule
  exact ⟨by omega, i, _, Tryz.underlying32, h1, h2, h3, h4, rfl⟩

theorem idx_none {L : List Ent} {r : Rl} (h : ∀ j (hj : j < L.length), L[j].rule ≠ r) : ruleIdx r L = none := by
  unfold ruleIdx
  rw [List.findIdx?_eq_none_iff]
  intro e he
  obtain ⟨j, hj, rfl⟩ := List.mem_iff_getElem.1 he
  exact decide_eq_false (fun e => h j hj e.symm)
theorem idx_some {L : List Ent} {r : Rl} {k : Nat} (hk : k < L.length) (he : L[k].rule = r) (h : ∀ j (hj : j < L.length), j < k → L[j].rule ≠ r) : ruleIdx r L = some k := by
  unfold ruleIdx
  rw [List.findIdx?_eq_some_iff_getElem]
  exact ⟨hk, decide_eq_true he.symm, fun j hj => by simpa using fun e => h j (by omega) hj e.symm⟩

theorem rule_eql (a b : Rl) (w : World) : (binOp .eql 42 (.agg #[.int .i64 a.kind, .int .u8 a.letter, .int .i64 a.left, .int .i64 a.right, .int .i64 a.times]) (.agg #[.int .i64 b.kind, .int .u8 b.letter, .int .i64 b.left, .int .i64 b.right, .int .i64 b.times])).run Tryz.prog w = .ok (.bool (decide (a = b))) w := by
  have h := rule_equal a b w
  rw [run_eql_struct]
  have e : (Op.equalIn 10000 42 (.agg #[.int .i64 a.kind, .int .u8 a.letter, .int .i64 a.left, .int .i64 a.right, .int .i64 a.times]) (.agg #[.int .i64 b.kind, .int .u8 b.letter, .int .i64 b.left, .int .i64 b.right, .int .i64 b.times])).run Tryz.prog w = .ok (decide (a = b)) w := h
  rw [e]
  rfl

/-- What is known in the last region of Add. -/
structure AddG (w1 : World) (Z : Nat) (L : List Ent) (x : Ent) (ra la : Option Addr) (rcap lcap : Nat) (d : Nat → Bool) (v : Nat → Value) (w : World) : Prop where
  fr : Fr (fun k => k = Z + 1 + 1) w1 w
  a : Ch 42 5 w1.heap.size (d 0) (d 3) (d 5) (d 6) (v 26) (v 29) (v 31) (v 32) w L.length (L.flatMap rlv) (rlv x)
  b : Ch 3 1 w1.heap.size (d 7) (d 10) (d 12) (d 13) (v 33) (v 36) (v 38) (v 39) w L.length (L.flatMap lnv) (lnv x)
  e1 : d 1 = true → v 27 = .pointer (some ⟨Z, 0, none⟩)
  e2 : d 2 = true → v 28 = .slice ra L.length rcap
  e4 : d 4 = true → v 30 = .agg #[.int .i64 x.rule.kind, .int .u8 x.rule.letter, .int .i64 x.rule.left, .int .i64 x.rule.right, .int .i64 x.rule.times]
  e8 : d 8 = true → v 34 = .pointer (some ⟨Z, 1, none⟩)
  e9 : d 9 = true → v 35 = .slice la L.length lcap
  e11 : d 11 = true → v 37 = .int .i64 x.wt.len
  e14 : d 14 = true → v 40 = .agg #[v 32, v 39] ∧ d 6 = true ∧ d 13 = true
  e15 : d 15 = true → v 41 = .pointer (some ⟨Z, 0, none⟩)
  e16 : d 16 = true → v 42 = .slice ra L.length rcap
  e17 : d 17 = true → v 43 = .int .i64 L.length
  e18 : d 18 = true → v 44 = .int .i64 ((L.length : Int) + 1)
  e19 : d 19 = true → w.heap[Z + 1 + 1]? = some (.cells #[v 32, v 39] 35 (0, 0)) ∧ d 6 = true ∧ d 13 = true
  z2 : d 19 = false → w.heap[Z + 1 + 1]? = some (.cells #[.slice none 0 0, .slice none 0 0] 35 (0, 0))
  e20 : d 20 = true → v 7 = .int .i64 ((L.length : Int) + 1)

theorem AddG.s1 {w1 : World} {Z : Nat} {L : List Ent} {x : Ent} {ra la : Option Addr} {rcap lcap : Nat} {d : Nat → Bool} {v : Nat → Value} {w : World} (h : AddG w1 Z L x ra la rcap lcap d v w) : AddG w1 Z L x ra la rcap lcap (fun j => decide (j = 1) || d j) (updV v 27 (.pointer (some ⟨Z, 0, none⟩))) w := by
  obtain ⟨fr, a, b, e1, e2, e4, e8, e9, e11, e14, e15, e16, e17, e18, e19, z2, e20⟩ := h
  exact ⟨fr, a, b, fun _ => rfl, e2, e4, e8, e9, e11, e14, e15, e16, e17, e18, e19, z2, e20⟩
theorem AddG.s2 {w1 : World} {Z : Nat} {L : List Ent} {x : Ent} {ra la : Option Addr} {rcap lcap : Nat} {d : Nat → Bool} {v : Nat → Value} {w : World} (h : AddG w1 Z L x ra la rcap lcap d v w) : AddG w1 Z L x ra la rcap lcap (fun j => decide (j = 2) || d j) (updV v 28 (.slice ra L.length rcap)) w := by
  obtain ⟨fr, a, b, e1, e2, e4, e8, e9, e11, e14, e15, e16, e17, e18, e19, z2, e20⟩ := h
  exact ⟨fr, a, b, e1, fun _ => rfl, e4, e8, e9, e11, e14, e15, e16, e17, e18, e19, z2, e20⟩
theorem AddG.s4 {w1 : World} {Z : Nat} {L : List Ent} {x : Ent} {ra la : Option Addr} {rcap lcap : Nat} {d : Nat → Bool} {v : Nat → Value} {w : World} (h : AddG w1 Z L x ra la rcap lcap d v w) : AddG w1 Z L x ra la rcap lcap (fun j => decide (j = 4) || d j) (updV v 30 (.agg #[.int .i64 x.rule.kind, .int .u8 x.rule.letter, .int .i64 x.rule.left, .int .i64 x.rule.right, .int .i64 x.rule.times])) w := by
  obtain ⟨fr, a, b, e1, e2, e4, e8, e9, e11, e14, e15, e16, e17, e18, e19, z2, e20⟩ := h
  exact ⟨fr, a, b, e1, e2, fun _ => rfl, e8, e9, e11, e14, e15, e16, e17, e18, e19, z2, e20⟩
theorem AddG.s8 {w1 : World} {Z : Nat} {L : List Ent} {x : Ent} {ra la : Option Addr} {rcap lcap : Nat} {d : Nat → Bool} {v : Nat → Value} {w : World} (h : AddG w1 Z L x ra la rcap lcap d v w) : AddG w1 Z L x ra la rcap lcap (fun j => decide (j = 8) || d j) (updV v 34 (.pointer (some ⟨Z, 1, none⟩))) w := by
  obtain ⟨fr, a, b, e1, e2, e4, e8, e9, e11, e14, e15, e16, e17, e18, e19, z2, e20⟩ := h
  exact ⟨fr, a, b, e1, e2, e4, fun _ => rfl, e9, e11, e14, e15, e16, e17, e18, e19, z2, e20⟩
theorem AddG.s9 {w1 : World} {Z : Nat} {L : List Ent} {x : Ent} {ra la : Option Addr} {rcap lcap : Nat} {d : Nat → Bool} {v : Nat → Value} {w : World} (h : AddG w1 Z L x ra la rcap lcap d v w) : AddG w1 Z L x ra la rcap lcap (fun j => decide (j = 9) || d j) (updV v 35 (.slice la L.length lcap)) w := by
  obtain ⟨fr, a, b, e1, e2, e4, e8, e9, e11, e14, e15, e16, e17, e18, e19, z2, e20⟩ := h
  exact ⟨fr, a, b, e1, e2, e4, e8, fun _ => rfl, e11, e14, e15, e16, e17, e18, e19, z2, e20⟩
theorem AddG.s11 {w1 : World} {Z : Nat} {L : List Ent} {x : Ent} {ra la : Option Addr} {rcap lcap : Nat} {d : Nat → Bool} {v : Nat → Value} {w : World} (h : AddG w1 Z L x ra la rcap lcap d v w) : AddG w1 Z L x ra la rcap lcap (fun j => decide (j = 11) || d j) (updV v 37 (.int .i64 x.wt.len)) w := by
  obtain ⟨fr, a, b, e1, e2, e4, e8, e9, e11, e14, e15, e16, e17, e18, e19, z2, e20⟩ := h
  exact ⟨fr, a, b, e1, e2, e4, e8, e9, fun _ => rfl, e14, e15, e16, e17, e18, e19, z2, e20⟩
theorem AddG.s15 {w1 : World} {Z : Nat} {L : List Ent} {x : Ent} {ra la : Option Addr} {rcap lcap : Nat} {d : Nat → Bool} {v : Nat → Value} {w : World} (h : AddG w1 Z L x ra la rcap lcap d v w) : AddG w1 Z L x ra la rcap lcap (fun j => decide (j = 15) || d j) (updV v 41 (.pointer (some ⟨Z, 0, none⟩))) w := by
  obtain ⟨fr, a, b, e1, e2, e4, e8, e9, e11, e14, e15, e16, e17, e18, e19, z2, e20⟩ := h
  exact ⟨fr, a, b, e1, e2, e4, e8, e9, e11, e14, fun _ => rfl, e16, e17, e18, e19, z2, e20⟩
theorem AddG.s16 {w1 : World} {Z : Nat} {L : List Ent} {x : Ent} {ra la : Option Addr} {rcap lcap : Nat} {d : Nat → Bool} {v : Nat → Value} {w : World} (h : AddG w1 Z L x ra la rcap lcap d v w) : AddG w1 Z L x ra la rcap lcap (fun j => decide (j = 16) || d j) (updV v 42 (.slice ra L.length rcap)) w := by
  obtain ⟨fr, a, b, e1, e2, e4, e8, e9, e11, e14, e15, e16, e17, e18, e19, z2, e20⟩ := h
  exact ⟨fr, a, b, e1, e2, e4, e8, e9, e11, e14, e15, fun _ => rfl, e17, e18, e19, z2, e20⟩
theorem AddG.s17 {w1 : World} {Z : Nat} {L : List Ent} {x : Ent} {ra la : Option Addr} {rcap lcap : Nat} {d : Nat → Bool} {v : Nat → Value} {w : World} (h : AddG w1 Z L x ra la rcap lcap d v w) : AddG w1 Z L x ra la rcap lcap (fun j => decide (j = 17) || d j) (updV v 43 (.int .i64 L.length)) w := by
  obtain ⟨fr, a, b, e1, e2, e4, e8, e9, e11, e14, e15, e16, e17, e18, e19, z2, e20⟩ := h
  exact ⟨fr, a, b, e1, e2, e4, e8, e9, e11, e14, e15, e16, fun _ => rfl, e18, e19, z2, e20⟩
theorem AddG.s18 {w1 : World} {Z : Nat} {L : List Ent} {x : Ent} {ra la : Option Addr} {rcap lcap : Nat} {d : Nat → Bool} {v : Nat → Value} {w : World} (h : AddG w1 Z L x ra la rcap lcap d v w) : AddG w1 Z L x ra la rcap lcap (fun j => decide (j = 18) || d j) (updV v 44 (.int .i64 ((L.length : Int) + 1))) w := by
  obtain ⟨fr, a, b, e1, e2, e4, e8, e9, e11, e14, e15, e16, e17, e18, e19, z2, e20⟩ := h
  exact ⟨fr, a, b, e1, e2, e4, e8, e9, e11, e14, e15, e16, e17, fun _ => rfl, e19, z2, e20⟩
theorem AddG.s20 {w1 : World} {Z : Nat} {L : List Ent} {x : Ent} {ra la : Option Addr} {rcap lcap : Nat} {d : Nat → Bool} {v : Nat → Value} {w : World} (h : AddG w1 Z L x ra la rcap lcap d v w) : AddG w1 Z L x ra la rcap lcap (fun j => decide (j = 20) || d j) (updV v 7 (.int .i64 ((L.length : Int) + 1))) w := by
  obtain ⟨fr, a, b, e1, e2, e4, e8, e9, e11, e14, e15, e16, e17, e18, e19, z2, e20⟩ := h
  exact ⟨fr, a, b, e1, e2, e4, e8, e9, e11, e14, e15, e16, e17, e18, e19, z2, fun _ => rfl⟩
theorem AddG.s14 {w1 : World} {Z : Nat} {L : List Ent} {x : Ent} {ra la : Option Addr} {rcap lcap : Nat} {d : Nat → Bool} {v : Nat → Value} {w : World} (h : AddG w1 Z L x ra la rcap lcap d v w) (h6 : d 6 = true) (h13 : d 13 = true) : AddG w1 Z L x ra la rcap lcap (fun j => decide (j = 14) || d j) (updV v 40 (.agg #[v 32, v 39])) w := by
  obtain ⟨fr, a, b, e1, e2, e4, e8, e9, e11, e14, e15, e16, e17, e18, e19, z2, e20⟩ := h
  exact ⟨fr, a, b, e1, e2, e4, e8, e9, e11, fun _ => ⟨rfl, h6, h13⟩, e15, e16, e17, e18, e19, z2, e20⟩

/-- The result's block behind an allocation. -/
theorem blk_alloc {w : World} {b : Nat} {o : Obj} (h : w.heap[b]? = some o) (o' : Obj) : (w.alloc o').heap[b]? = some o := (alloc_lt _ _ _ (lt_of_block h)).trans h

theorem ne_typ {w : World} {T T' : TypeId} (hT : T ≠ T') {base size n : Nat} {v : Value} {xs : List Value} (ho : w.ownsRow base T size v n xs) : ∀ k cur f, w.heap[k]? = some (.cells cur T' f) → ¬ v.ownBlock = some k := by
  intro k cur f hk e
  obtain ⟨c, hc⟩ := owns_block ho e
  exact ne_of_types hc hk hT rfl

theorem AddG.s0 {w1 : World} {Z : Nat} {L : List Ent} {x : Ent} {ra la : Option Addr} {rcap lcap : Nat} {d : Nat → Bool} {v : Nat → Value} {w : World} (h : AddG w1 Z L x ra la rcap lcap d v w) (h0 : d 0 = false) : AddG w1 Z L x ra la rcap lcap (fun j => decide (j = 0) || d j) (updV v 26 (.slice (some ⟨w.heap.size, 0, none⟩) 0 0)) (w.alloc (.cells #[] 42 (0, 0))) := by
  obtain ⟨fr, a, b, e1, e2, e4, e8, e9, e11, e14, e15, e16, e17, e18, e19, z2, e20⟩ := h
  exact ⟨fr.alloc _, a.stepP h0 fr.size, b.alloc _, e1, e2, e4, e8, e9, e11, e14, e15, e16, e17, e18, fun hd => ⟨blk_alloc (e19 hd).1 _, (e19 hd).2⟩, fun hd => blk_alloc (z2 hd) _, e20⟩
theorem AddG.s5 {w1 : World} {Z : Nat} {L : List Ent} {x : Ent} {ra la : Option Addr} {rcap lcap : Nat} {d : Nat → Bool} {v : Nat → Value} {w : World} (h : AddG w1 Z L x ra la rcap lcap d v w) (h0 : d 5 = false) : AddG w1 Z L x ra la rcap lcap (fun j => decide (j = 5) || d j) (updV v 31 (.slice (some ⟨w.heap.size, 0, none⟩) 1 1)) (w.alloc (.cells #[.int .i64 x.rule.kind, .int .u8 x.rule.letter, .int .i64 x.rule.left, .int .i64 x.rule.right, .int .i64 x.rule.times] 42 (0, 0))) := by
  obtain ⟨fr, a, b, e1, e2, e4, e8, e9, e11, e14, e15, e16, e17, e18, e19, z2, e20⟩ := h
  exact ⟨fr.alloc _, a.stepR h0, b.alloc _, e1, e2, e4, e8, e9, e11, e14, e15, e16, e17, e18, fun hd => ⟨blk_alloc (e19 hd).1 _, (e19 hd).2⟩, fun hd => blk_alloc (z2 hd) _, e20⟩
theorem AddG.s7 {w1 : World} {Z : Nat} {L : List Ent} {x : Ent} {ra la : Option Addr} {rcap lcap : Nat} {d : Nat → Bool} {v : Nat → Value} {w : World} (h : AddG w1 Z L x ra la rcap lcap d v w) (h0 : d 7 = false) : AddG w1 Z L x ra la rcap lcap (fun j => decide (j = 7) || d j) (updV v 33 (.slice (some ⟨w.heap.size, 0, none⟩) 0 0)) (w.alloc (.cells #[] 3 (0, 0))) := by
  obtain ⟨fr, a, b, e1, e2, e4, e8, e9, e11, e14, e15, e16, e17, e18, e19, z2, e20⟩ := h
  exact ⟨fr.alloc _, a.alloc _, b.stepP h0 fr.size, e1, e2, e4, e8, e9, e11, e14, e15, e16, e17, e18, fun hd => ⟨blk_alloc (e19 hd).1 _, (e19 hd).2⟩, fun hd => blk_alloc (z2 hd) _, e20⟩
theorem AddG.s12 {w1 : World} {Z : Nat} {L : List Ent} {x : Ent} {ra la : Option Addr} {rcap lcap : Nat} {d : Nat → Bool} {v : Nat → Value} {w : World} (h : AddG w1 Z L x ra la rcap lcap d v w) (h0 : d 12 = false) : AddG w1 Z L x ra la rcap lcap (fun j => decide (j = 12) || d j) (updV v 38 (.slice (some ⟨w.heap.size, 0, none⟩) 1 1)) (w.alloc (.cells #[.int .i64 x.wt.len] 3 (0, 0))) := by
  obtain ⟨fr, a, b, e1, e2, e4, e8, e9, e11, e14, e15, e16, e17, e18, e19, z2, e20⟩ := h
  exact ⟨fr.alloc _, a.alloc _, b.stepR h0, e1, e2, e4, e8, e9, e11, e14, e15, e16, e17, e18, fun hd => ⟨blk_alloc (e19 hd).1 _, (e19 hd).2⟩, fun hd => blk_alloc (z2 hd) _, e20⟩
theorem AddG.s3 {w1 : World} {Z : Nat} {L : List Ent} {x : Ent} {ra la : Option Addr} {rcap lcap : Nat} {d : Nat → Bool} {v : Nat → Value} {w : World} (h : AddG w1 Z L x ra la rcap lcap d v w) (h0 : d 3 = false) (hp : d 0 = true) {v2 : Value} {w2 : World} (h1 : w2.ownsRow w1.heap.size 42 5 v2 (0 + L.length) ([] ++ L.flatMap rlv)) (hg : w.grownBy w2 (v 26).ownBlock) (hat : v2.ownBlock = (v 26).ownBlock ∨ v2.ownBlock = some w.heap.size) : AddG w1 Z L x ra la rcap lcap (fun j => decide (j = 3) || d j) (updV v 29 v2) w2 := by
  obtain ⟨fr, a, b, e1, e2, e4, e8, e9, e11, e14, e15, e16, e17, e18, e19, z2, e20⟩ := h
  have hown := a.cp hp h0
  exact ⟨Fr.grown fr hg (fun k hk hlt => by have := (hown.lt k hk).1; omega), a.stepQ hp h0 h1 hg hat, b.kept (grown_fr hg) (fun k cur hk e => ne_typ (by decide) hown k cur _ hk e), e1, e2, e4, e8, e9, e11, e14, e15, e16, e17, e18, fun hd => ⟨(grown_fr hg).kept (e19 hd).1 (fun e => ne_typ (by decide) hown _ _ _ (e19 hd).1 e), (e19 hd).2⟩, fun hd => (grown_fr hg).kept (z2 hd) (fun e => ne_typ (by decide) hown _ _ _ (z2 hd) e), e20⟩
theorem AddG.s6 {w1 : World} {Z : Nat} {L : List Ent} {x : Ent} {ra la : Option Addr} {rcap lcap : Nat} {d : Nat → Bool} {v : Nat → Value} {w : World} (h : AddG w1 Z L x ra la rcap lcap d v w) (h0 : d 6 = false) (hq : d 3 = true) (hr : d 5 = true) {v2 : Value} {w2 : World} (h1 : w2.ownsRow w1.heap.size 42 5 v2 (L.length + 1) (L.flatMap rlv ++ rlv x)) (hg : w.grownBy w2 (v 29).ownBlock) : AddG w1 Z L x ra la rcap lcap (fun j => decide (j = 6) || d j) (updV v 32 v2) w2 := by
  obtain ⟨fr, a, b, e1, e2, e4, e8, e9, e11, e14, e15, e16, e17, e18, e19, z2, e20⟩ := h
  have hown := a.cq hq h0
  exact ⟨Fr.grown fr hg (fun k hk hlt => by have := (hown.lt k hk).1; omega), a.stepZ hq hr h1, b.kept (grown_fr hg) (fun k cur hk e => ne_typ (by decide) hown k cur _ hk e), e1, e2, e4, e8, e9, e11, fun hd => absurd (e14 hd).2.1 (by rw [h0]; simp), e15, e16, e17, e18, fun hd => absurd (e19 hd).2.1 (by rw [h0]; simp), fun hd => (grown_fr hg).kept (z2 hd) (fun e => ne_typ (by decide) hown _ _ _ (z2 hd) e), e20⟩
theorem AddG.s10 {w1 : World} {Z : Nat} {L : List Ent} {x : Ent} {ra la : Option Addr} {rcap lcap : Nat} {d : Nat → Bool} {v : Nat → Value} {w : World} (h : AddG w1 Z L x ra la rcap lcap d v w) (h0 : d 10 = false) (hp : d 7 = true) {v2 : Value} {w2 : World} (h1 : w2.ownsRow w1.heap.size 3 1 v2 (0 + L.length) ([] ++ L.flatMap lnv)) (hg : w.grownBy w2 (v 33).ownBlock) (hat : v2.ownBlock = (v 33).ownBlock ∨ v2.ownBlock = some w.heap.size) : AddG w1 Z L x ra la rcap lcap (fun j => decide (j = 10) || d j) (updV v 36 v2) w2 := by
  obtain ⟨fr, a, b, e1, e2, e4, e8, e9, e11, e14, e15, e16, e17, e18, e19, z2, e20⟩ := h
  have hown := b.cp hp h0
  exact ⟨Fr.grown fr hg (fun k hk hlt => by have := (hown.lt k hk).1; omega), a.kept (grown_fr hg) (fun k cur hk e => ne_typ (by decide) hown k cur _ hk e), b.stepQ hp h0 h1 hg hat, e1, e2, e4, e8, e9, e11, e14, e15, e16, e17, e18, fun hd => ⟨(grown_fr hg).kept (e19 hd).1 (fun e => ne_typ (by decide) hown _ _ _ (e19 hd).1 e), (e19 hd).2⟩, fun hd => (grown_fr hg).kept (z2 hd) (fun e => ne_typ (by decide) hown _ _ _ (z2 hd) e), e20⟩
theorem AddG.s13 {w1 : World} {Z : Nat} {L : List Ent} {x : Ent} {ra la : Option Addr} {rcap lcap : Nat} {d : Nat → Bool} {v : Nat → Value} {w : World} (h : AddG w1 Z L x ra la rcap lcap d v w) (h0 : d 13 = false) (hq : d 10 = true) (hr : d 12 = true) {v2 : Value} {w2 : World} (h1 : w2.ownsRow w1.heap.size 3 1 v2 (L.length + 1) (L.flatMap lnv ++ lnv x)) (hg : w.grownBy w2 (v 36).ownBlock) : AddG w1 Z L x ra la rcap lcap (fun j => decide (j = 13) || d j) (updV v 39 v2) w2 := by
  obtain ⟨fr, a, b, e1, e2, e4, e8, e9, e11, e14, e15, e16, e17, e18, e19, z2, e20⟩ := h
  have hown := b.cq hq h0
  exact ⟨Fr.grown fr hg (fun k hk hlt => by have := (hown.lt k hk).1; omega), a.kept (grown_fr hg) (fun k cur hk e => ne_typ (by decide) hown k cur _ hk e), b.stepZ hq hr h1, e1, e2, e4, e8, e9, e11, fun hd => absurd (e14 hd).2.2 (by rw [h0]; simp), e15, e16, e17, e18, fun hd => absurd (e19 hd).2.2 (by rw [h0]; simp), fun hd => (grown_fr hg).kept (z2 hd) (fun e => ne_typ (by decide) hown _ _ _ (z2 hd) e), e20⟩
theorem AddG.s19 {w1 : World} {Z : Nat} {L : List Ent} {x : Ent} {ra la : Option Addr} {rcap lcap : Nat} {d : Nat → Bool} {v : Nat → Value} {w : World} (h : AddG w1 Z L x ra la rcap lcap d v w) (h0 : d 19 = false) (h6 : d 6 = true) (h13 : d 13 = true) : AddG w1 Z L x ra la rcap lcap (fun j => decide (j = 19) || d j) (v) ((w.setCell ⟨Z + 1 + 1, 0, none⟩ (v 32)).setCell ⟨Z + 1 + 1, 1, none⟩ (v 39)) := by
  obtain ⟨fr, a, b, e1, e2, e4, e8, e9, e11, e14, e15, e16, e17, e18, e19, z2, e20⟩ := h
  have hb := z2 h0
  have hS : Fr (fun k => k = Z + 1 + 1) w ((w.setCell ⟨Z + 1 + 1, 0, none⟩ (v 32)).setCell ⟨Z + 1 + 1, 1, none⟩ (v 39)) := ((Fr.refl (fun k => k = Z + 1 + 1) w).setCell _ _ (fun _ => rfl)).setCell _ _ (fun _ => rfl)
  refine ⟨Fr.trans fr hS (fun i e _ => e), a.kept hS (fun k cur hk e => ?_), b.kept hS (fun k cur hk e => ?_), e1, e2, e4, e8, e9, e11, e14, e15, e16, e17, e18, fun _ => ⟨setCell_block (setCell_block hb 0 _) 1 _, h6, h13⟩, fun hd => (by cases hd), e20⟩
  · exact ne_of_types hk hb (by decide) e
  · exact ne_of_types hk hb (by decide) e

end Go.Proofs.YtodmpcnpedpheaaGreatDoor

/- The walk of evergreenref12.Add. -/
set_option linter.unusedSimpArgs false
set_option linter.unusedVariables false
namespace Go.Proofs.YtodmpcnpedpheaaGreatDoor
open Go.RowKit

set_option maxRecDepth 100000 in
set_option maxHeartbeats 4000000 in
theorem ref12_Add {w : World} {va vb : Value} {L : List Ent} (hS : RSt w va vb L) (x : Ent) (hl : L.length ≤ 1000) :
    Calls Tryz.prog 52 #[.agg #[va, vb], .agg #[.int .i64 x.rule.kind, .int .u8 x.rule.letter, .int .i64 x.rule.left, .int .i64 x.rule.right, .int .i64 x.rule.times], .int .i64 x.wt.len] w fun e w' => ∃ va' vb', e = .returned (.tuple #[.agg #[va', vb'], .int .i64 (addI L x)]) ∧ Fr0 w w' ∧ RSt w' va' vb' (addL L x) := by
  have HSS := Lib.hid hS
  obtain ⟨⟨ra, rcap, rfl, hru, hrn⟩, ⟨la, lcap, rfl, hle, hln⟩, _, _⟩ := hS
  have HRN := Lib.hid hrn
  have HLN := Lib.hid hln
  clear hrn hln
  have HRU := Lib.hid hru
  have HLE := Lib.hid hle
  clear hru hle
  go_enter Tryz.func52, Tryz.ntmps52
  go_wp2_with fail
  generalize hW0 : ((w.alloc (.cells #[.slice ra L.length rcap, .slice la L.length lcap] 35 (0, 0))).alloc (.cells #[.int .i64 x.rule.kind, .int .u8 x.rule.letter, .int .i64 x.rule.left, .int .i64 x.rule.right, .int .i64 x.rule.times] 42 (0, 0))).alloc (.cells #[.slice none 0 0, .slice none 0 0] 35 (0, 0)) = W0 at *
  have hB : Fr0 w W0 ∧ W0.heap[w.heap.size]? = some (.cells #[.slice ra L.length rcap, .slice la L.length lcap] 35 (0, 0)) ∧ W0.heap[w.heap.size + 1]? = some (.cells #[.int .i64 x.rule.kind, .int .u8 x.rule.letter, .int .i64 x.rule.left, .int .i64 x.rule.right, .int .i64 x.rule.times] 42 (0, 0)) ∧ W0.heap[w.heap.size + 1 + 1]? = some (.cells #[.slice none 0 0, .slice none 0 0] 35 (0, 0)) := by
    rw [← hW0]
    exact ⟨(((Fr0.refl w).alloc _).alloc _).alloc _, alloc3_0 w _ _ _, alloc3_1 w _ _ _, alloc3_2 w _ _ _⟩
  obtain ⟨F0, hz0, hz1, hz2⟩ := hB
  have HF0 := Lib.hid F0
  have HZ0 := Lib.hid hz0
  have HZ1 := Lib.hid hz1
  have HZ2 := Lib.hid hz2
  obtain ⟨Z, hZ⟩ : ∃ Z, Z = w.heap.size := ⟨_, rfl⟩
  rw [← hZ] at HZ0 HZ1 HZ2 ⊢
  have HZS := Lib.hid hZ
  clear hW0 F0 hz0 hz1 hz2 hZ
  go_loopw [8] (fun i wr => ∃ k : Nat, k ≤ L.length ∧ i = .int .i64 k ∧ Fr0 W0 wr ∧ Hid (∀ j (hj : j < L.length), j < k → L[j].rule ≠ x.rule)) (fun i _ => L.length - (intOf i).toNat)
  case atStart => exact ⟨0, Nat.zero_le _, rfl, Fr0.refl _, fun j hj h => absurd h (by omega)⟩
  case round =>
    obtain ⟨k, hk, rfl, hf, HB⟩ := hrel
    have hz0 := hf.kept HZ0.out
    have hz1 := hf.kept HZ1.out
    have hz2 := hf.kept HZ2.out
    obtain ⟨a0, a1, la0⟩ := cells2w hz0
    obtain ⟨g0, g1, gf, lg⟩ := cells2f hz2
    have HG2 := Lib.hid hz2
    obtain ⟨r0, r1, r2, r3, r4, lr⟩ := cells5w' hz1
    by_cases hlt : k < L.length
    · obtain ⟨b, off, rfl, lb, _, hc⟩ := (HRU.out.kept0 (HF0.out.trans hf)) k hlt
      have c0 := hc 0 _ rfl
      have c1 := hc 1 _ rfl
      have c2 := hc 2 _ rfl
      have c3 := hc 3 _ rfl
      have c4 := hc 4 _ rfl
      rw [Nat.add_zero] at c0
      have HRU2 := HRU
      clear hc hz0 hz1 hz2 HRU
      have q0 : decide (k < L.length) = true := decide_eq_true hlt
      by_cases hq : L[k].rule = x.rule
      · have hcmp := rule_eql L[k].rule x.rule
        rw [decide_eq_true hq] at hcmp
        have HI := Lib.hid (idx_some hlt hq HB.out)
        have HRS : Hid (∀ W', Fr0 w W' → RSt W' (.slice (some ⟨b, off, none⟩) L.length rcap) (.slice la L.length lcap) L) := fun W' hW' => HSS.out.kept0 hW'
        clear hq HB
        go_wp2_with fail
        go_quiet (fail)
        go_wp2_with fail
        have hE := setCell_block (setCell_block (w := wr.drewN nq) HG2.out 0 (.slice (some ⟨b, off, none⟩) L.length rcap)) 1 (.slice la L.length lcap)
        obtain ⟨e0, e1, _⟩ := cells2w hE
        have hFF : Fr0 w (((wr.drewN nq).setCell ⟨Z + 1 + 1, 0, none⟩ (.slice (some ⟨b, off, none⟩) L.length rcap)).setCell ⟨Z + 1 + 1, 1, none⟩ (.slice la L.length lcap)) := (((HF0.out.trans hf).drewN nq).setCell _ _ (by have := HZS.out; show _ ≤ Z + 1 + 1; omega)).setCell _ _ (by have := HZS.out; show _ ≤ Z + 1 + 1; omega)
        refine bodyPost_ret (v := .tuple #[.agg #[.slice (some ⟨b, off, none⟩) L.length rcap, .slice la L.length lcap], .int .i64 ((k : Int) + 1)]) (by simp [results, Tryz.results52, go_sem, e0, e1]) rfl ⟨_, _, by rw [addI_some HI.out], hFF, ?_⟩
        rw [addL_some HI.out]
        exact HRS.out _ hFF
      · have hcmp := rule_eql L[k].rule x.rule
        rw [decide_eq_false hq] at hcmp
        have HB2 : Hid (∀ j (hj : j < L.length), j < k + 1 → L[j].rule ≠ x.rule) := by
          intro j hj h
          by_cases e : j = k
          · subst e; exact hq
          · exact HB.out j hj (by omega)
        clear hq HB
        generalize L[k].rule = y at *
        go_wp2_with fail
        go_quiet (fail)
        go_wp2_with fail
        go_roundw
        case rel => exact ⟨k + 1, by omega, by go_num, hf.drewN _, HB2.out⟩
        case measure => simp [intOf]; omega
    · have q0 : decide (k < L.length) = false := decide_eq_false hlt
      have HI := Lib.hid (idx_none (r := x.rule) (fun j hj => HB.out j hj (by omega)))
      clear hlt hk HB hz1 r0 r1 r2 r3 r4 lr g0 g1 gf lg
      clear hz0 hz2
      go_wp2_with fail
      clear a0 a1 la0
      generalize hA : ({ tmps := _, defers := _ } : Act) = a0
      have h3 : a0.eval (.tmp 3) = .pointer (some ⟨Z, 0, none⟩) := by rw [← hA]; rfl
      have h4 : a0.eval (.tmp 4) = .pointer (some ⟨Z + 1, 0, none⟩) := by rw [← hA]; rfl
      have h6 : a0.eval (.tmp 6) = .pointer (some ⟨Z + 1 + 1, 0, none⟩) := by rw [← hA]; rfl
      have h2 : a0.eval (.tmp 2) = .int .i64 x.wt.len := by rw [← hA]; rfl
      have hsz : a0.tmps.size = 45 := by rw [← hA]; rfl
      have HA := Lib.hid hA
      clear hA
      obtain ⟨SL, hSL⟩ : ∃ SL : List Nat, SL = [26, 27, 28, 29, 30, 31, 32, 33, 34, 35, 36, 37, 38, 39, 40, 41, 42, 43, 44, 7] := ⟨_, rfl⟩
      refine region_inv (by kernel_rfl) (by kernel_rfl) SL (AddG wr Z L x ra la rcap lcap) ?_ ?_ ?_
      · exact ⟨(Fr.refl _ wr).drew, Ch.start _ _ _ _ _ _ _ _ _ _ _, Ch.start _ _ _ _ _ _ _ _ _ _ _, (by intro h; cases h), (by intro h; cases h), (by intro h; cases h), (by intro h; cases h), (by intro h; cases h), (by intro h; cases h), (by intro h; cases h), (by intro h; cases h), (by intro h; cases h), (by intro h; cases h), (by intro h; cases h), (by intro h; cases h), fun _ => HG2.out, (by intro h; cases h)⟩
      · refine all_idx0 _ ⟨?_, ?_, ?_, ?_, ?_, ?_, ?_, ?_, ?_, ?_, ?_, ?_, ?_, ?_, ?_, ?_, ?_, ?_, ?_, ?_, ?_, trivial⟩
        all_goals intro d v w2 hd hdeps hG
        · -- 0
          refine wp_yields (v := .slice (some ⟨w2.heap.size, 0, none⟩) 0 0) (w' := w2.alloc (.cells #[] 42 (0, 0))) ?_ ⟨updV v 26 _, puts_put v _ (by rw [hSL]; decide), hG.s0 hd⟩
          simp only [execOp]
          go_simp
        · -- 1
          have e3 := (eval_puts_not (a := a0) (slots := SL) v (s := 3) (by rw [hSL]; decide)).trans h3
          refine wp_yields (v := .pointer (some ⟨Z, 0, none⟩)) (w' := w2) ?_ ⟨updV v 27 (.pointer (some ⟨Z, 0, none⟩)), puts_put v _ (by rw [hSL]; decide), hG.s1⟩
          simp only [execOp, e3]
          go_simp
        · -- 2
          have e27 : (putsF a0 SL v).eval (.tmp 27) = v 27 := eval_puts v (by rw [hSL]; decide) (by rw [hsz]; decide)
          have d1 : d 1 = true := hdeps ⟨1, .data⟩ (by simp) rfl
          rw [hG.e1 d1] at e27
          have hz := hG.fr.kept (hf.kept HZ0.out) (by omega)
          obtain ⟨c0, c1, lc⟩ := cells2w hz
          refine wp_yields (v := .slice ra L.length rcap) (w' := w2) ?_ ⟨updV v 28 (.slice ra L.length rcap), puts_put v _ (by rw [hSL]; decide), hG.s2⟩
          simp only [execOp, e27]
          go_simp
        · -- 3
          have e26 : (putsF a0 SL v).eval (.tmp 26) = v 26 := eval_puts v (by rw [hSL]; decide) (by rw [hsz]; decide)
          have e28 : (putsF a0 SL v).eval (.tmp 28) = v 28 := eval_puts v (by rw [hSL]; decide) (by rw [hsz]; decide)
          have d0 : d 0 = true := hdeps ⟨0, .data⟩ (by simp) rfl
          have d2 : d 2 = true := hdeps ⟨2, .data⟩ (by simp) rfl
          rw [hG.e2 d2] at e28
          have F2 : Fr0 w w2 := Fr.trans (HF0.out.trans hf) hG.fr (fun i e hi => by have := HZS.out; omega)
          have hrg := HRU.out.kept0 F2
          refine wp_append_rt rt_rule _ _ (by rfl) wr.heap.size (v 26) 0 [] e26 (hG.a.cp d0 hd) _ L.length (L.flatMap rlv) e28 (src_rg hrg (fun _ _ => rfl) (by omega) HRN.out) (flat_len rlv 5 L (fun _ _ => rfl)) ?_ (by unfold maxLen; omega) (by omega) hG.fr.size ?_
          · intro u hu
            obtain ⟨y, _, hy⟩ := List.mem_flatMap.1 hu
            simp [rlv, Rl.vals] at hy
            rcases hy with rfl | rfl | rfl | rfl | rfl <;> rfl
          · intro v2 w3 q1 q2 q3
            exact ⟨updV v 29 v2, puts_put v _ (by rw [hSL]; decide), hG.s3 hd d0 q1 q2 q3⟩
        · -- 4
          have e4 := (eval_puts_not (a := a0) (slots := SL) v (s := 4) (by rw [hSL]; decide)).trans h4
          have hz := hG.fr.kept (hf.kept HZ1.out) (by omega)
          obtain ⟨r0, r1, r2, r3, r4, lr⟩ := cells5w' hz
          refine wp_yields (v := .agg #[.int .i64 x.rule.kind, .int .u8 x.rule.letter, .int .i64 x.rule.left, .int .i64 x.rule.right, .int .i64 x.rule.times]) (w' := w2) ?_ ⟨updV v 30 (.agg #[.int .i64 x.rule.kind, .int .u8 x.rule.letter, .int .i64 x.rule.left, .int .i64 x.rule.right, .int .i64 x.rule.times]), puts_put v _ (by rw [hSL]; decide), hG.s4⟩
          simp only [execOp, e4]
          go_simp
        · -- 5
          have e30 : (putsF a0 SL v).eval (.tmp 30) = v 30 := eval_puts v (by rw [hSL]; decide) (by rw [hsz]; decide)
          have d4 : d 4 = true := hdeps ⟨4, .data⟩ (by simp) rfl
          rw [hG.e4 d4] at e30
          refine wp_yields (v := .slice (some ⟨w2.heap.size, 0, none⟩) 1 1) (w' := w2.alloc (.cells #[.int .i64 x.rule.kind, .int .u8 x.rule.letter, .int .i64 x.rule.left, .int .i64 x.rule.right, .int .i64 x.rule.times] 42 (0, 0))) ?_ ⟨updV v 31 _, puts_put v _ (by rw [hSL]; decide), hG.s5 hd⟩
          simp only [execOp]
          simp only [List.map_toArray, List.map_cons, List.map_nil, e30]
          go_simp
        · -- 6
          have e29 : (putsF a0 SL v).eval (.tmp 29) = v 29 := eval_puts v (by rw [hSL]; decide) (by rw [hsz]; decide)
          have e31 : (putsF a0 SL v).eval (.tmp 31) = v 31 := eval_puts v (by rw [hSL]; decide) (by rw [hsz]; decide)
          have d3 : d 3 = true := hdeps ⟨3, .data⟩ (by simp) rfl
          have d5 : d 5 = true := hdeps ⟨5, .data⟩ (by simp) rfl
          obtain ⟨g, hg1, hg2⟩ := hG.a.cr d5 hd
          rw [hg1] at e31
          refine wp_append_rt rt_rule _ _ (by rfl) wr.heap.size (v 29) L.length (L.flatMap rlv) e29 (hG.a.cq d3 hd) _ 1 (rlv x) e31 (.inr ⟨_, 1, rfl, ?_⟩) (by simp [rlv, Rl.vals]) (by simp [rlv, Rl.vals, Value.oneCell']) (by unfold maxLen; omega) (by omega) hG.fr.size ?_
          · intro j u hj
            rw [add_offA, cell_of_block hg2, Nat.zero_add]
            simpa using hj
          · intro v2 w3 q1 q2 q3
            exact ⟨updV v 32 v2, puts_put v _ (by rw [hSL]; decide), hG.s6 hd d3 d5 q1 q2⟩
        · -- 7
          refine wp_yields (v := .slice (some ⟨w2.heap.size, 0, none⟩) 0 0) (w' := w2.alloc (.cells #[] 3 (0, 0))) ?_ ⟨updV v 33 _, puts_put v _ (by rw [hSL]; decide), hG.s7 hd⟩
          simp only [execOp]
          go_simp
        · -- 8
          have e3 := (eval_puts_not (a := a0) (slots := SL) v (s := 3) (by rw [hSL]; decide)).trans h3
          refine wp_yields (v := .pointer (some ⟨Z, 1, none⟩)) (w' := w2) ?_ ⟨updV v 34 (.pointer (some ⟨Z, 1, none⟩)), puts_put v _ (by rw [hSL]; decide), hG.s8⟩
          simp only [execOp, e3]
          go_simp
        · -- 9
          have e34 : (putsF a0 SL v).eval (.tmp 34) = v 34 := eval_puts v (by rw [hSL]; decide) (by rw [hsz]; decide)
          have d8 : d 8 = true := hdeps ⟨8, .data⟩ (by simp) rfl
          rw [hG.e8 d8] at e34
          have hz := hG.fr.kept (hf.kept HZ0.out) (by omega)
          obtain ⟨c0, c1, lc⟩ := cells2w hz
          refine wp_yields (v := .slice la L.length lcap) (w' := w2) ?_ ⟨updV v 35 (.slice la L.length lcap), puts_put v _ (by rw [hSL]; decide), hG.s9⟩
          simp only [execOp, e34]
          go_simp
        · -- 10
          have e33 : (putsF a0 SL v).eval (.tmp 33) = v 33 := eval_puts v (by rw [hSL]; decide) (by rw [hsz]; decide)
          have e35 : (putsF a0 SL v).eval (.tmp 35) = v 35 := eval_puts v (by rw [hSL]; decide) (by rw [hsz]; decide)
          have d7 : d 7 = true := hdeps ⟨7, .data⟩ (by simp) rfl
          have d9 : d 9 = true := hdeps ⟨9, .data⟩ (by simp) rfl
          rw [hG.e9 d9] at e35
          have F2 : Fr0 w w2 := Fr.trans (HF0.out.trans hf) hG.fr (fun i e hi => by have := HZS.out; omega)
          have hrg := HLE.out.kept0 F2
          refine wp_append_rt rt_int _ _ (by rfl) wr.heap.size (v 33) 0 [] e33 (hG.b.cp d7 hd) _ L.length (L.flatMap lnv) e35 (src_rg hrg (fun _ _ => rfl) (by omega) HLN.out) (flat_len lnv 1 L (fun _ _ => rfl)) ?_ (by unfold maxLen; omega) (by omega) hG.fr.size ?_
          · intro u hu
            obtain ⟨y, _, hy⟩ := List.mem_flatMap.1 hu
            simp [lnv] at hy
            subst hy
            rfl
          · intro v2 w3 q1 q2 q3
            exact ⟨updV v 36 v2, puts_put v _ (by rw [hSL]; decide), hG.s10 hd d7 q1 q2 q3⟩
        · -- 11
          have e2 := (eval_puts_not (a := a0) (slots := SL) v (s := 2) (by rw [hSL]; decide)).trans h2
          refine wp_yields (v := .int .i64 x.wt.len) (w' := w2) ?_ ⟨updV v 37 (.int .i64 x.wt.len), puts_put v _ (by rw [hSL]; decide), hG.s11⟩
          simp only [execOp, e2]
          go_simp
        · -- 12
          have e37 : (putsF a0 SL v).eval (.tmp 37) = v 37 := eval_puts v (by rw [hSL]; decide) (by rw [hsz]; decide)
          have d11 : d 11 = true := hdeps ⟨11, .data⟩ (by simp) rfl
          rw [hG.e11 d11] at e37
          refine wp_yields (v := .slice (some ⟨w2.heap.size, 0, none⟩) 1 1) (w' := w2.alloc (.cells #[.int .i64 x.wt.len] 3 (0, 0))) ?_ ⟨updV v 38 _, puts_put v _ (by rw [hSL]; decide), hG.s12 hd⟩
          simp only [execOp]
          simp only [List.map_toArray, List.map_cons, List.map_nil, e37]
          go_simp
        · -- 13
          have e36 : (putsF a0 SL v).eval (.tmp 36) = v 36 := eval_puts v (by rw [hSL]; decide) (by rw [hsz]; decide)
          have e38 : (putsF a0 SL v).eval (.tmp 38) = v 38 := eval_puts v (by rw [hSL]; decide) (by rw [hsz]; decide)
          have d10 : d 10 = true := hdeps ⟨10, .data⟩ (by simp) rfl
          have d12 : d 12 = true := hdeps ⟨12, .data⟩ (by simp) rfl
          obtain ⟨g, hg1, hg2⟩ := hG.b.cr d12 hd
          rw [hg1] at e38
          refine wp_append_rt rt_int _ _ (by rfl) wr.heap.size (v 36) L.length (L.flatMap lnv) e36 (hG.b.cq d10 hd) _ 1 (lnv x) e38 (.inr ⟨_, 1, rfl, ?_⟩) (by simp [lnv, Rl.vals]) (by simp [lnv, Rl.vals, Value.oneCell']) (by unfold maxLen; omega) (by omega) hG.fr.size ?_
          · intro j u hj
            rw [add_offA, cell_of_block hg2, Nat.zero_add]
            simpa using hj
          · intro v2 w3 q1 q2 q3
            exact ⟨updV v 39 v2, puts_put v _ (by rw [hSL]; decide), hG.s13 hd d10 d12 q1 q2⟩
        · -- 14
          have e32 : (putsF a0 SL v).eval (.tmp 32) = v 32 := eval_puts v (by rw [hSL]; decide) (by rw [hsz]; decide)
          have e39 : (putsF a0 SL v).eval (.tmp 39) = v 39 := eval_puts v (by rw [hSL]; decide) (by rw [hsz]; decide)
          have d6 : d 6 = true := hdeps ⟨6, .data⟩ (by simp) rfl
          have d13 : d 13 = true := hdeps ⟨13, .data⟩ (by simp) rfl
          obtain ⟨a32, c32, h32⟩ := owns_form (hG.a.cz d6)
          obtain ⟨a39, c39, h39⟩ := owns_form (hG.b.cz d13)
          have hs := hG.s14 d6 d13
          rw [h32, h39] at hs
          rw [h32] at e32
          rw [h39] at e39
          refine wp_yields (v := .agg #[.slice a32 (L.length + 1) c32, .slice a39 (L.length + 1) c39]) (w' := w2) ?_ ⟨updV v 40 _, puts_put v _ (by rw [hSL]; decide), hs⟩
          simp only [execOp]
          simp only [List.map_toArray, List.map_cons, List.map_nil, e32, e39]
          go_simp
        · -- 15
          have e3 := (eval_puts_not (a := a0) (slots := SL) v (s := 3) (by rw [hSL]; decide)).trans h3
          refine wp_yields (v := .pointer (some ⟨Z, 0, none⟩)) (w' := w2) ?_ ⟨updV v 41 (.pointer (some ⟨Z, 0, none⟩)), puts_put v _ (by rw [hSL]; decide), hG.s15⟩
          simp only [execOp, e3]
          go_simp
        · -- 16
          have e41 : (putsF a0 SL v).eval (.tmp 41) = v 41 := eval_puts v (by rw [hSL]; decide) (by rw [hsz]; decide)
          have d15 : d 15 = true := hdeps ⟨15, .data⟩ (by simp) rfl
          rw [hG.e15 d15] at e41
          have hz := hG.fr.kept (hf.kept HZ0.out) (by omega)
          obtain ⟨c0, c1, lc⟩ := cells2w hz
          refine wp_yields (v := .slice ra L.length rcap) (w' := w2) ?_ ⟨updV v 42 (.slice ra L.length rcap), puts_put v _ (by rw [hSL]; decide), hG.s16⟩
          simp only [execOp, e41]
          go_simp
        · -- 17
          have e42 : (putsF a0 SL v).eval (.tmp 42) = v 42 := eval_puts v (by rw [hSL]; decide) (by rw [hsz]; decide)
          have d16 : d 16 = true := hdeps ⟨16, .data⟩ (by simp) rfl
          rw [hG.e16 d16] at e42
          refine wp_yields (v := .int .i64 (L.length : Int)) (w' := w2) ?_ ⟨updV v 43 _, puts_put v _ (by rw [hSL]; decide), hG.s17⟩
          simp only [execOp, resolve, invoke, builtin, List.map_toArray, List.map_cons, List.map_nil, e42]
          go_simp
        · -- 18
          have e43 : (putsF a0 SL v).eval (.tmp 43) = v 43 := eval_puts v (by rw [hSL]; decide) (by rw [hsz]; decide)
          have d17 : d 17 = true := hdeps ⟨17, .data⟩ (by simp) rfl
          rw [hG.e17 d17] at e43
          refine wp_yields (v := .int .i64 ((L.length : Int) + 1)) (w' := w2) ?_ ⟨updV v 44 _, puts_put v _ (by rw [hSL]; decide), hG.s18⟩
          simp only [execOp, e43]
          go_simp
          exact IntWalk.i64_in _ (by omega)
        · -- 19
          have e40 : (putsF a0 SL v).eval (.tmp 40) = v 40 := eval_puts v (by rw [hSL]; decide) (by rw [hsz]; decide)
          have e6 := (eval_puts_not (a := a0) (slots := SL) v (s := 6) (by rw [hSL]; decide)).trans h6
          have d14 : d 14 = true := hdeps ⟨14, .data⟩ (by simp) rfl
          obtain ⟨h40, d6, d13⟩ := hG.e14 d14
          obtain ⟨a32, c32, h32⟩ := owns_form (hG.a.cz d6)
          obtain ⟨a39, c39, h39⟩ := owns_form (hG.b.cz d13)
          have hs := hG.s19 hd d6 d13
          rw [h32, h39] at hs
          rw [h40, h32, h39] at e40
          obtain ⟨g0, g1, gf, lg⟩ := cells2f (hG.z2 hd)
          refine wp_skips (w' := (w2.setCell ⟨Z + 1 + 1, 0, none⟩ (.slice a32 (L.length + 1) c32)).setCell ⟨Z + 1 + 1, 1, none⟩ (.slice a39 (L.length + 1) c39)) ?_ ⟨v, rfl, hs⟩
          simp only [execOp, e40, e6]
          go_simp
        · -- 20
          have e44 : (putsF a0 SL v).eval (.tmp 44) = v 44 := eval_puts v (by rw [hSL]; decide) (by rw [hsz]; decide)
          have d18 : d 18 = true := hdeps ⟨18, .data⟩ (by simp) rfl
          rw [hG.e18 d18] at e44
          refine wp_yields (v := .int .i64 ((L.length : Int) + 1)) (w' := w2) ?_ ⟨updV v 7 _, puts_put v _ (by rw [hSL]; decide), hG.s20⟩
          simp only [execOp, e44]
          go_simp
      · intro d v w2 hd hG
        have d6 := hd 6 (by simp)
        have d13 := hd 13 (by simp)
        have d19 := hd 19 (by simp)
        have d20 := hd 20 (by simp)
        have t6 : (putsF a0 SL v).tmps.getD 6 undef = .pointer (some ⟨Z + 1 + 1, 0, none⟩) := (eval_puts_not (a := a0) (slots := SL) v (s := 6) (by rw [hSL]; decide)).trans h6
        have t7 : (putsF a0 SL v).tmps.getD 7 undef = .int .i64 ((L.length : Int) + 1) := (eval_puts (a := a0) (slots := SL) v (s := 7) (by rw [hSL]; decide) (by rw [hsz]; decide)).trans (hG.e20 d20)
        have hdf : (putsF a0 SL v).defers = [] := by rw [(putsF_tmps SL a0 v).1, ← HA.out]
        obtain ⟨z0, z1, lz⟩ := cells2w (hG.e19 d19).1
        have ha := hG.a.cz d6
        have hb := hG.b.cz d13
        have F2 : Fr0 w w2 := Fr.trans (HF0.out.trans hf) hG.fr (fun i e hi => by have := HZS.out; omega)
        have hla : (L ++ [x]).length = L.length + 1 := by simp
        have hfa : (L ++ [x]).flatMap rlv = L.flatMap rlv ++ rlv x := by simp
        have hfb : (L ++ [x]).flatMap lnv = L.flatMap lnv ++ lnv x := by simp
        rw [← hla, ← hfa] at ha
        rw [← hla, ← hfb] at hb
        obtain ⟨a32, c32, h32, g32⟩ := rg_of_own (vals := rlv) (size := 5) (B := 0) (fun _ _ => rfl) ha (by decide) (by decide)
        obtain ⟨a39, c39, h39, g39⟩ := rg_of_own (vals := lnv) (size := 1) (B := 0) (fun _ _ => rfl) hb (by decide) (by decide)
        have n32 : a32 = none → c32 = 0 := by
          rintro rfl
          obtain ⟨b, off, h, _⟩ := g32 0 (by rw [hla]; omega)
          cases h
        have n39 : a39 = none → c39 = 0 := by
          rintro rfl
          obtain ⟨b, off, h, _⟩ := g39 0 (by rw [hla]; omega)
          cases h
        rw [h32] at z0
        rw [h39] at z1
        refine (show ∀ (a : Act) (w : World), Code.wp Tryz.prog Code.ret _ a w → _ from by assumption) _ _ ?_
        refine wp_ret (bodyPost_ret (v := .tuple #[.agg #[.slice a32 (L ++ [x]).length c32, .slice a39 (L ++ [x]).length c39], .int .i64 ((L.length : Int) + 1)]) ?_ hdf ⟨_, _, by rw [addI_none HI.out], F2, ?_⟩)
        · simp only [results, Tryz.results52]
          rw [Array.getD_eq_getD_getElem?] at t6 t7
          simp [go_sem, t6, t7, z0, z1]
        · rw [addL_none HI.out]
          rw [h32] at ha
          rw [h39] at hb
          refine ⟨⟨a32, c32, rfl, g32, n32⟩, ⟨a39, c39, rfl, g39, n39⟩, fun ad n c h => ?_, fun ad n c h => ?_⟩
          · cases h
            obtain ⟨cur, hc⟩ := owns_block ha rfl
            exact ⟨cur, _, hc⟩
          · cases h
            obtain ⟨cur, hc⟩ := owns_block hb rfl
            exact ⟨cur, _, hc⟩

end Go.Proofs.YtodmpcnpedpheaaGreatDoor

/- The walks of evergreenref12.Pick, Length, Known. -/
set_option linter.unusedSimpArgs false
set_option linter.unusedVariables false
namespace Go.Proofs.YtodmpcnpedpheaaGreatDoor
open Go.RowKit

theorem pick_val (n m : Int) (hm : 0 < m) : (if n.tmod m < 0 then n.tmod m + m else n.tmod m) = n % m := by
  have h1 := Int.tmod_eq_emod (a := n) (b := m)
  have h2 := Int.emod_nonneg n (show m ≠ 0 by omega)
  have h3 := Int.emod_lt_of_pos n hm
  have h4 : (m.natAbs : Int) = m := by omega
  by_cases h : 0 ≤ n ∨ m ∣ n
  · rw [if_pos h] at h1
    rw [if_neg (by omega)]
    omega
  · rw [if_neg h] at h1
    rw [if_pos (by omega)]
    omega

set_option maxRecDepth 100000 in
set_option maxHeartbeats 1000000 in
theorem ref12_Pick (n m : Int) (w : World) (h0 : -9223372036854775808 ≤ n) (h1 : n ≤ 9223372036854775807) (hm : 0 < m) (hm2 : m ≤ 1000000) :
    Calls Tryz.prog 26 #[.int .i64 n, .int .i64 m] w fun e w' => e = .returned (.int .i64 (n % m)) ∧ w = w' := by
  have hv := pick_val n m hm
  have hb : -m < n.tmod m ∧ n.tmod m < m := ⟨by have := Int.lt_tmod_of_pos n hm; omega, Int.tmod_lt_of_pos n hm⟩
  have q0 : (m == 0) = false := beq_eq_false_iff_ne.2 (by omega)
  have q1 : (m == -1) = false := beq_eq_false_iff_ne.2 (by omega)
  have hw := IntWalk.i64_in (n.tmod m) (by omega)
  have hw2 := IntWalk.i64_in (n.tmod m + m) (by omega)
  by_cases hneg : n.tmod m < 0
  · rw [if_pos hneg] at hv
    have HV := Lib.hid hv
    have q2 : decide (n.tmod m < 0) = true := decide_eq_true hneg
    clear hv
    go_enter Tryz.func26, Tryz.ntmps26
    go_wp2_with fail
    go_ret
    exact ⟨by show Ending.returned (.int .i64 (n.tmod m + m)) = _; rw [HV.out], rfl⟩
  · rw [if_neg hneg] at hv
    have HV := Lib.hid hv
    have q2 : decide (n.tmod m < 0) = false := decide_eq_false hneg
    clear hv
    go_enter Tryz.func26, Tryz.ntmps26
    go_wp2_with fail
    go_ret
    exact ⟨by show Ending.returned (.int .i64 (n.tmod m)) = _; rw [HV.out], rfl⟩

set_option maxRecDepth 100000 in
set_option maxHeartbeats 1000000 in
theorem ref12_Length_zero (va vb : Value) (w : World) :
    Calls Tryz.prog 53 #[.agg #[va, vb], .int .i64 0] w fun e w' => e = .returned (.int .i64 0) ∧ Fr0 w w' := by
  go_enter Tryz.func53, Tryz.ntmps53
  go_wp2_with fail
  go_ret
  exact ⟨rfl, (Fr0.refl w).alloc _⟩

set_option maxRecDepth 100000 in
set_option maxHeartbeats 1000000 in
theorem ref12_Length_at (va : Value) (b off n cap k : Nat) (id x : Int) (w : World) (hid : id = (k : Int) + 1) (hk : k < n) (hn : n ≤ 1000) (hc : w.cell? ⟨b, off + k, none⟩ = some (.int .i64 x)) :
    Calls Tryz.prog 53 #[.agg #[va, .slice (some ⟨b, off, none⟩) n cap], .int .i64 id] w fun e w' => e = .returned (.int .i64 x) ∧ Fr0 w w' := by
  have hlb : b < w.heap.size := World.block_lt_of_cell? w _ hc
  have q0 : (id == 0) = false := beq_eq_false_iff_ne.2 (by omega)
  have h1 : id - 1 = (k : Int) := by omega
  have h2 : (0 : Int) ≤ (k : Int) := by omega
  have h3 : (k : Int) < (n : Int) := by omega
  have hb : id ≤ 1001 ∧ 1 ≤ id := by omega
  obtain ⟨hb1, hb2⟩ := hb
  clear hid
  go_enter Tryz.func53, Tryz.ntmps53
  go_wp2_with fail
  go_ret
  exact ⟨rfl, (Fr0.refl w).alloc _⟩

theorem ref12_Length {w : World} {va vb : Value} {L : List Ent} (hS : RSt w va vb L) (hl : L.length ≤ 1000) (id : Int) (hk : isKnown L id) :
    Calls Tryz.prog 53 #[.agg #[va, vb], .int .i64 id] w fun e w' => e = .returned (.int .i64 (entAt L id).wt.len) ∧ Fr0 w w' := by
  by_cases h0 : id = 0
  · subst h0
    exact ref12_Length_zero va vb w
  · obtain ⟨k, rfl⟩ : ∃ k : Nat, id = (k : Int) + 1 := ⟨(id - 1).toNat, by have := hk.1; omega⟩
    have hlt : k < L.length := by have := hk.2; omega
    obtain ⟨_, ⟨la, lcap, rfl, hle, _⟩, _, _⟩ := hS
    obtain ⟨b, off, rfl, _, _, hc⟩ := hle k hlt
    have c0 := hc 0 _ rfl
    rw [Nat.mul_one, Nat.add_zero] at c0
    rw [entAt_succ L k hlt]
    exact ref12_Length_at va b off L.length lcap k _ _ w rfl hlt hl c0

set_option maxRecDepth 100000 in
set_option maxHeartbeats 1000000 in
theorem ref12_Known {w : World} {va vb : Value} {L : List Ent} (hS : RSt w va vb L) (hl : L.length ≤ 1000) (id : Int) (b : Bool) (hb : decide (0 ≤ id ∧ id ≤ L.length) = b) :
    Calls Tryz.prog 11 #[.agg #[va, vb], .int .i64 id] w fun e w' => e = .returned (.bool b) ∧ Fr0 w w' := by
  obtain ⟨⟨ra, rcap, rfl, _⟩, _, _, _⟩ := hS
  by_cases h0 : 0 ≤ id
  · by_cases h1 : id ≤ (L.length : Int)
    · have q0 : decide (0 ≤ id) = true := decide_eq_true h0
      have q1 : decide (id ≤ (L.length : Int)) = true := decide_eq_true h1
      obtain rfl : b = true := by rw [← hb]; exact decide_eq_true ⟨h0, h1⟩
      clear hb
      go_enter Tryz.func11, Tryz.ntmps11
      go_wp2_with fail
      go_ret
      exact ⟨rfl, (Fr0.refl w).alloc _⟩
    · have q0 : decide (0 ≤ id) = true := decide_eq_true h0
      have q1 : decide (id ≤ (L.length : Int)) = false := decide_eq_false h1
      obtain rfl : b = false := by rw [← hb]; exact decide_eq_false (fun h => h1 h.2)
      clear hb
      go_enter Tryz.func11, Tryz.ntmps11
      go_wp2_with fail
      go_ret
      exact ⟨rfl, (Fr0.refl w).alloc _⟩
  · have q0 : decide (0 ≤ id) = false := decide_eq_false h0
    obtain rfl : b = false := by rw [← hb]; exact decide_eq_false (fun h => h0 h.1)
    clear hb
    go_enter Tryz.func11, Tryz.ntmps11
    go_wp2_with fail
    go_ret
    exact ⟨rfl, (Fr0.refl w).alloc _⟩

end Go.Proofs.YtodmpcnpedpheaaGreatDoor

/- The walk of evergreenref12.One. -/
set_option linter.unusedSimpArgs false
set_option linter.unusedVariables false
namespace Go.Proofs.YtodmpcnpedpheaaGreatDoor
open Go.RowKit

/-- A Make. -/
structure Mk where
  kind : Int
  letter : Int
  left : Int
  right : Int
  times : Int

def Mk.vals (m : Mk) : List Value := [.int .i64 m.kind, .int .u8 m.letter, .int .i64 m.left, .int .i64 m.right, .int .i64 m.times]
def i64P (n : Int) : Prop := -9223372036854775808 ≤ n ∧ n ≤ 9223372036854775807
structure Mk.Ok (m : Mk) : Prop where
  kind : i64P m.kind
  left : i64P m.left
  right : i64P m.right
  times : i64P m.times
  l0 : 0 ≤ m.letter
  l1 : m.letter < 256

def pickR (rs : List Int) (n : Int) : Int := rs.getD (n % (rs.length : Int)).toNat 0
def MaxL : Int := 1152921504606846976

/-- One Make of the reference: the entries, and the result. -/
def oneL (L : List Ent) (m : Mk) (rs : List Int) : List Ent × Int :=
  if m.kind % 4 = 0 then (addL L (letterEnt m.letter), addI L (letterEnt m.letter))
  else if m.kind % 4 = 3 then
    if pickR rs m.left = 0 ∨ m.times ≤ 0 ∨ MaxL / (entAt L (pickR rs m.left)).wt.len < m.times then (L, 0)
    else if m.times = 1 then (L, pickR rs m.left)
    else (addL L (powEnt L (pickR rs m.left) m.times), addI L (powEnt L (pickR rs m.left) m.times))
  else if pickR rs m.left = 0 then (L, pickR rs m.right)
  else if pickR rs m.right = 0 then (L, pickR rs m.left)
  else if MaxL - (entAt L (pickR rs m.right)).wt.len < (entAt L (pickR rs m.left)).wt.len then (L, 0)
  else (addL L (pairEnt L (pickR rs m.left) (pickR rs m.right)), addI L (pairEnt L (pickR rs m.left) (pickR rs m.right)))

def idv (x : Int) : List Value := [.int .i64 x]

/-- A result that is picked. -/
theorem pick_at {w : World} {B : Nat} {a : Option Addr} {rs : List Int} (hR : RG idv 1 B w a rs) (h0 : 0 < rs.length) (n : Int) : ∃ (i : Nat) (b off : Nat), n % (rs.length : Int) = (i : Int) ∧ i < rs.length ∧ a = some ⟨b, off, none⟩ ∧ b < w.heap.size ∧ w.cell? ⟨b, off + i, none⟩ = some (.int .i64 (pickR rs n)) := by
  have h2 := Int.emod_nonneg n (show (rs.length : Int) ≠ 0 by omega)
  have h3 := Int.emod_lt_of_pos n (show 0 < (rs.length : Int) by omega)
  have hi : (n % (rs.length : Int)).toNat < rs.length := by omega
  obtain ⟨b, off, rfl, hb, _, hc⟩ := hR _ hi
  have c0 := hc 0 _ rfl
  rw [Nat.mul_one, Nat.add_zero] at c0
  refine ⟨(n % (rs.length : Int)).toNat, b, off, by omega, hi, rfl, hb, ?_⟩
  unfold pickR
  rw [List.getD_eq_getElem?_getD, List.getElem?_eq_getElem hi]
  exact c0
theorem pick_known {L : List Ent} {rs : List Int} (hk : ∀ x ∈ rs, isKnown L x) (n : Int) : isKnown L (pickR rs n) := by
  unfold pickR
  rw [List.getD_eq_getElem?_getD]
  by_cases h : (n % (rs.length : Int)).toNat < rs.length
  · rw [List.getElem?_eq_getElem h]
    exact hk _ (List.getElem_mem h)
  · rw [List.getElem?_eq_none (by omega)]
    exact ⟨Int.le_refl _, by show (0 : Int) ≤ _; omega⟩

theorem letterE_len (b : Int) : (letterEnt b).wt.len = 1 := by
  show (Wt.letter b).len = 1
  unfold Wt.letter
  split <;> rfl

/-- What One leaves. -/
def OnePost (w : World) (L : List Ent) (id : Int) (e : Ending) (w' : World) : Prop :=
  ∃ va' vb', e = .returned (.tuple #[.agg #[va', vb'], .int .i64 id]) ∧ Fr0 w w' ∧ RSt w' va' vb' L

/-- The result is stored. -/
theorem one_out {w W0 w3 : World} {va' vb' : Value} {L : List Ent} {Z : Nat} (h0 : Fr0 w W0) (h3 : Fr0 W0 w3) (hz : W0.heap[Z + 1 + 1]? = some (.cells #[.slice none 0 0, .slice none 0 0] 35 (0, 0))) (hZ : Z = w.heap.size) (hs : RSt w3 va' vb' L) :
    Fr0 w ((w3.setCell ⟨Z + 1 + 1, 0, none⟩ va').setCell ⟨Z + 1 + 1, 1, none⟩ vb') ∧ RSt ((w3.setCell ⟨Z + 1 + 1, 0, none⟩ va').setCell ⟨Z + 1 + 1, 1, none⟩ vb') va' vb' L ∧ ((w3.setCell ⟨Z + 1 + 1, 0, none⟩ va').setCell ⟨Z + 1 + 1, 1, none⟩ vb').cell? ⟨Z + 1 + 1, 0, none⟩ = some va' ∧ ((w3.setCell ⟨Z + 1 + 1, 0, none⟩ va').setCell ⟨Z + 1 + 1, 1, none⟩ vb').cell? ⟨Z + 1 + 1, 1, none⟩ = some vb' := by
  have hz3 := h3.kept hz
  have h4 := setCell_block hz3 0 va'
  obtain ⟨e0, e1, _⟩ := cells2w (setCell_block h4 1 vb')
  exact ⟨((h0.trans h3).setCell _ _ (by show _ ≤ Z + 1 + 1; omega)).setCell _ _ (by show _ ≤ Z + 1 + 1; omega), (hs.set hz3 0 va').set h4 1 vb', e0, e1⟩

set_option maxRecDepth 100000 in
set_option maxHeartbeats 4000000 in
theorem ref12_One_letter {w : World} {va vb : Value} {L : List Ent} (hS : RSt w va vb L) (hl : L.length ≤ 900) (m : Mk) (hm : m.Ok) (rs : List Int) {B : Nat} {a : Option Addr} {cap : Nat} (hR : RG idv 1 B w a rs) (h0 : 0 < rs.length) (h1 : rs.length ≤ 1000) (hk : m.kind % 4 = 0) :
    Calls Tryz.prog 30 #[.agg #[va, vb], .agg #[.int .i64 m.kind, .int .u8 m.letter, .int .i64 m.left, .int .i64 m.right, .int .i64 m.times], .slice a rs.length cap] w (OnePost w (addL L (letterEnt m.letter)) (addI L (letterEnt m.letter))) := by
  obtain ⟨⟨ra, rcap, rfl, hru⟩, ⟨la, lcap, rfl, hle⟩, _, _⟩ := id hS
  obtain ⟨i, b, off, hi, hi2, rfl, hlb, hci⟩ := pick_at hR h0 m.left
  obtain ⟨j, b', off', hj, hj2, hbb, _, hcj⟩ := pick_at hR h0 m.right
  simp only [Option.some.injEq, Addr.mk.injEq, and_true] at hbb
  obtain ⟨rfl, rfl⟩ := hbb
  have CP1 := Lib.hid (fun W => ref12_Pick m.left rs.length W hm.left.1 hm.left.2 (by omega) (by omega))
  rw [hi] at CP1
  have CP2 := Lib.hid (fun W => ref12_Pick m.right rs.length W hm.right.1 hm.right.2 (by omega) (by omega))
  rw [hj] at CP2
  have CP3 := Lib.hid (fun W => ref12_Pick m.kind 4 W hm.kind.1 hm.kind.2 (by omega) (by omega))
  rw [hk] at CP3
  have CA : Hid (∀ W, Fr0 w W → Calls Tryz.prog 52 #[.agg #[.slice ra L.length rcap, .slice la L.length lcap], .agg #[.int .i64 1, .int .u8 m.letter, .int .i64 0, .int .i64 0, .int .i64 0], .int .i64 1] W (OnePost W (addL L (letterEnt m.letter)) (addI L (letterEnt m.letter)))) := by
    intro W hW
    have := ref12_Add (hS.kept0 hW) (letterEnt m.letter) (by omega)
    rw [letterE_len] at this
    exact this
  have x1 : (0 : Int) ≤ (i : Int) := by omega
  have x2 : (i : Int) < (rs.length : Int) := by omega
  have x3 : (0 : Int) ≤ (j : Int) := by omega
  have x4 : (j : Int) < (rs.length : Int) := by omega
  generalize pickR rs m.left = l at *
  generalize pickR rs m.right = r at *
  clear hS hm hR hk hi hj hru hle
  go_enter Tryz.func30, Tryz.ntmps30
  go_wp2_with fail
  have hB : ∃ W0, W0 = ((w.alloc (.cells #[.slice ra L.length rcap, .slice la L.length lcap] 35 (0, 0))).alloc (.cells #[.int .i64 m.kind, .int .u8 m.letter, .int .i64 m.left, .int .i64 m.right, .int .i64 m.times] 83 (0, 0))).alloc (.cells #[.slice none 0 0, .slice none 0 0] 35 (0, 0)) := ⟨_, rfl⟩
  obtain ⟨W0, hW0⟩ := hB
  have F0 : Fr0 w W0 := by rw [hW0]; exact (((Fr0.refl w).alloc _).alloc _).alloc _
  have hz0 : W0.heap[w.heap.size]? = some (.cells #[.slice ra L.length rcap, .slice la L.length lcap] 35 (0, 0)) := by rw [hW0]; exact alloc3_0 w _ _ _
  have hz1 : W0.heap[w.heap.size + 1]? = some (.cells #[.int .i64 m.kind, .int .u8 m.letter, .int .i64 m.left, .int .i64 m.right, .int .i64 m.times] 83 (0, 0)) := by rw [hW0]; exact alloc3_1 w _ _ _
  have hz2 : W0.heap[w.heap.size + 1 + 1]? = some (.cells #[.slice none 0 0, .slice none 0 0] 35 (0, 0)) := by rw [hW0]; exact alloc3_2 w _ _ _
  rw [← hW0]
  obtain ⟨Z, hZ⟩ : ∃ Z, Z = w.heap.size := ⟨_, rfl⟩
  rw [← hZ] at hz0 hz1 hz2 ⊢
  have HZS := Lib.hid hZ
  have hci0 := (F0.cell b (off + i) hlb).trans hci
  have hcj0 := (F0.cell b (off + j) hlb).trans hcj
  have hlb0 : b < W0.heap.size := by have := Fr.size F0; omega
  obtain ⟨a0, a1, la0⟩ := cells2w hz0
  obtain ⟨b0, b1, b2, b3, b4, lb0⟩ := cells5w' hz1
  obtain ⟨g0, g1, gf, lg⟩ := cells2f hz2
  have HF0 := Lib.hid F0
  have HZ2 := Lib.hid hz2
  clear hW0 F0 hz0 hz1 hz2 hZ hci hcj
  refine (CP1.out _).mono ?_
  rintro e w' ⟨rfl, rfl⟩
  go_wp2_with fail
  refine (CP2.out _).mono ?_
  rintro e w' ⟨rfl, rfl⟩
  go_wp2_with fail
  refine (CP3.out _).mono ?_
  rintro e w' ⟨rfl, rfl⟩
  go_wp2_with fail
  refine (CA.out _ HF0.out).mono ?_
  rintro e w3 ⟨va', vb', rfl, f3, hs3⟩
  have HX := Lib.hid (one_out HF0.out f3 HZ2.out HZS.out hs3)
  obtain ⟨⟨ra', rcap', rfl, _⟩, ⟨la', lcap', rfl, _⟩, _, _⟩ := id hs3
  obtain ⟨g0', g1', gf', lg'⟩ := cells2f (f3.kept HZ2.out)
  have HF3 := Lib.hid f3
  clear f3 hs3 CA CP1 CP2 CP3 g0 g1 gf lg a0 a1 la0 b0 b1 b2 b3 b4 lb0
  go_wp2_with fail
  obtain ⟨y1, y2, e0, e1⟩ := HX.out
  exact bodyPost_ret (v := .tuple #[.agg #[.slice ra' _ rcap', .slice la' _ lcap'], .int .i64 _]) (by simp [results, Tryz.results30, go_sem, e0, e1]) rfl ⟨_, _, rfl, y1, y2⟩

set_option maxRecDepth 100000 in
set_option maxHeartbeats 4000000 in
theorem ref12_One_same0 {w : World} {va vb : Value} {L : List Ent} (hS : RSt w va vb L) (hO : SOk L) (hl : L.length ≤ 900) (m : Mk) (hm : m.Ok) (rs : List Int) {B : Nat} {a : Option Addr} {cap : Nat} (hR : RG idv 1 B w a rs) (h0 : 0 < rs.length) (h1 : rs.length ≤ 1000) (kk l r : Int) (hk : m.kind % 4 = kk) (hl' : pickR rs m.left = l) (hr' : pickR rs m.right = r) (kl : isKnown L l) (kr : isKnown L r) (hk3 : kk = 1 ∨ kk = 2) (hl0 : l = 0) :
    Calls Tryz.prog 30 #[.agg #[va, vb], .agg #[.int .i64 m.kind, .int .u8 m.letter, .int .i64 m.left, .int .i64 m.right, .int .i64 m.times], .slice a rs.length cap] w (OnePost w L r) := by
  obtain ⟨⟨ra, rcap, rfl, _⟩, ⟨la, lcap, rfl, _⟩, _, _⟩ := id hS
  obtain ⟨i, b, off, hi, hi2, rfl, hlb, hci⟩ := pick_at hR h0 m.left
  obtain ⟨j, b', off', hj, hj2, hbb, _, hcj⟩ := pick_at hR h0 m.right
  simp only [Option.some.injEq, Addr.mk.injEq, and_true] at hbb
  obtain ⟨rfl, rfl⟩ := hbb
  rw [hl'] at hci
  rw [hr'] at hcj
  have CP1 := Lib.hid (fun W => ref12_Pick m.left rs.length W hm.left.1 hm.left.2 (by omega) (by omega))
  rw [hi] at CP1
  have CP2 := Lib.hid (fun W => ref12_Pick m.right rs.length W hm.right.1 hm.right.2 (by omega) (by omega))
  rw [hj] at CP2
  have CP3 := Lib.hid (fun W => ref12_Pick m.kind 4 W hm.kind.1 hm.kind.2 (by omega) (by omega))
  rw [hk] at CP3
  have ht1 := hm.times.1
  have ht2 := hm.times.2
  have x1 : (0 : Int) ≤ (i : Int) := by omega
  have x2 : (i : Int) < (rs.length : Int) := by omega
  have x3 : (0 : Int) ≤ (j : Int) := by omega
  have x4 : (j : Int) < (rs.length : Int) := by omega
  have HS := Lib.hid hS
  have q0 : (kk == 0) = false := beq_eq_false_iff_ne.2 (by omega)
  have q1 : (kk == 3) = false := beq_eq_false_iff_ne.2 (by omega)
  have q2 : (l == 0) = true := beq_iff_eq.2 (by omega)
  clear hl0
  clear hS hO hm hR hk hi hj hl' hr' kl kr
  go_enter Tryz.func30, Tryz.ntmps30
  go_wp2_with fail
  have hB : ∃ W0, W0 = ((w.alloc (.cells #[.slice ra L.length rcap, .slice la L.length lcap] 35 (0, 0))).alloc (.cells #[.int .i64 m.kind, .int .u8 m.letter, .int .i64 m.left, .int .i64 m.right, .int .i64 m.times] 83 (0, 0))).alloc (.cells #[.slice none 0 0, .slice none 0 0] 35 (0, 0)) := ⟨_, rfl⟩
  obtain ⟨W0, hW0⟩ := hB
  have F0 : Fr0 w W0 := by rw [hW0]; exact (((Fr0.refl w).alloc _).alloc _).alloc _
  have hz0 : W0.heap[w.heap.size]? = some (.cells #[.slice ra L.length rcap, .slice la L.length lcap] 35 (0, 0)) := by rw [hW0]; exact alloc3_0 w _ _ _
  have hz1 : W0.heap[w.heap.size + 1]? = some (.cells #[.int .i64 m.kind, .int .u8 m.letter, .int .i64 m.left, .int .i64 m.right, .int .i64 m.times] 83 (0, 0)) := by rw [hW0]; exact alloc3_1 w _ _ _
  have hz2 : W0.heap[w.heap.size + 1 + 1]? = some (.cells #[.slice none 0 0, .slice none 0 0] 35 (0, 0)) := by rw [hW0]; exact alloc3_2 w _ _ _
  rw [← hW0]
  obtain ⟨Z, hZ⟩ : ∃ Z, Z = w.heap.size := ⟨_, rfl⟩
  rw [← hZ] at hz0 hz1 hz2 ⊢
  have HZS := Lib.hid hZ
  have hci0 := (F0.cell b (off + i) hlb).trans hci
  have hcj0 := (F0.cell b (off + j) hlb).trans hcj
  have hlb0 : b < W0.heap.size := by have := Fr.size F0; omega
  obtain ⟨a0, a1, la0⟩ := cells2w hz0
  obtain ⟨b0, b1, b2, b3, b4, lb0⟩ := cells5w' hz1
  obtain ⟨g0, g1, gf, lg⟩ := cells2f hz2
  have HF0 := Lib.hid F0
  have HZ0 := Lib.hid hz0
  have HZ1 := Lib.hid hz1
  have HZ2 := Lib.hid hz2
  clear hW0 F0 hz0 hz1 hz2 hZ hci hcj
  refine (CP1.out _).mono ?_
  rintro e w' ⟨rfl, rfl⟩
  go_wp2_with fail
  refine (CP2.out _).mono ?_
  rintro e w' ⟨rfl, rfl⟩
  go_wp2_with fail
  refine (CP3.out _).mono ?_
  rintro e w' ⟨rfl, rfl⟩
  clear CP1 CP2 CP3
  have HX := Lib.hid (one_out HF0.out (Fr0.refl W0) HZ2.out HZS.out (HS.out.kept0 HF0.out))
  go_wp2_with fail
  obtain ⟨y1, y2, e0, e1⟩ := HX.out
  exact bodyPost_ret (v := .tuple #[.agg #[.slice ra L.length rcap, .slice la L.length lcap], .int .i64 r]) (by simp [results, Tryz.results30, go_sem, e0, e1]) rfl ⟨_, _, rfl, y1, y2⟩


set_option maxRecDepth 100000 in
set_option maxHeartbeats 4000000 in
theorem ref12_One_same1 {w : World} {va vb : Value} {L : List Ent} (hS : RSt w va vb L) (hO : SOk L) (hl : L.length ≤ 900) (m : Mk) (hm : m.Ok) (rs : List Int) {B : Nat} {a : Option Addr} {cap : Nat} (hR : RG idv 1 B w a rs) (h0 : 0 < rs.length) (h1 : rs.length ≤ 1000) (kk l r : Int) (hk : m.kind % 4 = kk) (hl' : pickR rs m.left = l) (hr' : pickR rs m.right = r) (kl : isKnown L l) (kr : isKnown L r) (hk3 : kk = 1 ∨ kk = 2) (hl0 : l ≠ 0) (hr0 : r = 0) :
    Calls Tryz.prog 30 #[.agg #[va, vb], .agg #[.int .i64 m.kind, .int .u8 m.letter, .int .i64 m.left, .int .i64 m.right, .int .i64 m.times], .slice a rs.length cap] w (OnePost w L l) := by
  obtain ⟨⟨ra, rcap, rfl, _⟩, ⟨la, lcap, rfl, _⟩, _, _⟩ := id hS
  obtain ⟨i, b, off, hi, hi2, rfl, hlb, hci⟩ := pick_at hR h0 m.left
  obtain ⟨j, b', off', hj, hj2, hbb, _, hcj⟩ := pick_at hR h0 m.right
  simp only [Option.some.injEq, Addr.mk.injEq, and_true] at hbb
  obtain ⟨rfl, rfl⟩ := hbb
  rw [hl'] at hci
  rw [hr'] at hcj
  have CP1 := Lib.hid (fun W => ref12_Pick m.left rs.length W hm.left.1 hm.left.2 (by omega) (by omega))
  rw [hi] at CP1
  have CP2 := Lib.hid (fun W => ref12_Pick m.right rs.length W hm.right.1 hm.right.2 (by omega) (by omega))
  rw [hj] at CP2
  have CP3 := Lib.hid (fun W => ref12_Pick m.kind 4 W hm.kind.1 hm.kind.2 (by omega) (by omega))
  rw [hk] at CP3
  have ht1 := hm.times.1
  have ht2 := hm.times.2
  have x1 : (0 : Int) ≤ (i : Int) := by omega
  have x2 : (i : Int) < (rs.length : Int) := by omega
  have x3 : (0 : Int) ≤ (j : Int) := by omega
  have x4 : (j : Int) < (rs.length : Int) := by omega
  have HS := Lib.hid hS
  have q0 : (kk == 0) = false := beq_eq_false_iff_ne.2 (by omega)
  have q1 : (kk == 3) = false := beq_eq_false_iff_ne.2 (by omega)
  have q2 : (l == 0) = false := beq_eq_false_iff_ne.2 (by omega)
  have q3 : (r == 0) = true := beq_iff_eq.2 (by omega)
  clear hl0 hr0
  clear hS hO hm hR hk hi hj hl' hr' kl kr
  go_enter Tryz.func30, Tryz.ntmps30
  go_wp2_with fail
  have hB : ∃ W0, W0 = ((w.alloc (.cells #[.slice ra L.length rcap, .slice la L.length lcap] 35 (0, 0))).alloc (.cells #[.int .i64 m.kind, .int .u8 m.letter, .int .i64 m.left, .int .i64 m.right, .int .i64 m.times] 83 (0, 0))).alloc (.cells #[.slice none 0 0, .slice none 0 0] 35 (0, 0)) := ⟨_, rfl⟩
  obtain ⟨W0, hW0⟩ := hB
  have F0 : Fr0 w W0 := by rw [hW0]; exact (((Fr0.refl w).alloc _).alloc _).alloc _
  have hz0 : W0.heap[w.heap.size]? = some (.cells #[.slice ra L.length rcap, .slice la L.length lcap] 35 (0, 0)) := by rw [hW0]; exact alloc3_0 w _ _ _
  have hz1 : W0.heap[w.heap.size + 1]? = some (.cells #[.int .i64 m.kind, .int .u8 m.letter, .int .i64 m.left, .int .i64 m.right, .int .i64 m.times] 83 (0, 0)) := by rw [hW0]; exact alloc3_1 w _ _ _
  have hz2 : W0.heap[w.heap.size + 1 + 1]? = some (.cells #[.slice none 0 0, .slice none 0 0] 35 (0, 0)) := by rw [hW0]; exact alloc3_2 w _ _ _
  rw [← hW0]
  obtain ⟨Z, hZ⟩ : ∃ Z, Z = w.heap.size := ⟨_, rfl⟩
  rw [← hZ] at hz0 hz1 hz2 ⊢
  have HZS := Lib.hid hZ
  have hci0 := (F0.cell b (off + i) hlb).trans hci
  have hcj0 := (F0.cell b (off + j) hlb).trans hcj
  have hlb0 : b < W0.heap.size := by have := Fr.size F0; omega
  obtain ⟨a0, a1, la0⟩ := cells2w hz0
  obtain ⟨b0, b1, b2, b3, b4, lb0⟩ := cells5w' hz1
  obtain ⟨g0, g1, gf, lg⟩ := cells2f hz2
  have HF0 := Lib.hid F0
  have HZ0 := Lib.hid hz0
  have HZ1 := Lib.hid hz1
  have HZ2 := Lib.hid hz2
  clear hW0 F0 hz0 hz1 hz2 hZ hci hcj
  refine (CP1.out _).mono ?_
  rintro e w' ⟨rfl, rfl⟩
  go_wp2_with fail
  refine (CP2.out _).mono ?_
  rintro e w' ⟨rfl, rfl⟩
  go_wp2_with fail
  refine (CP3.out _).mono ?_
  rintro e w' ⟨rfl, rfl⟩
  clear CP1 CP2 CP3
  have HX := Lib.hid (one_out HF0.out (Fr0.refl W0) HZ2.out HZS.out (HS.out.kept0 HF0.out))
  go_wp2_with fail
  obtain ⟨y1, y2, e0, e1⟩ := HX.out
  exact bodyPost_ret (v := .tuple #[.agg #[.slice ra L.length rcap, .slice la L.length lcap], .int .i64 l]) (by simp [results, Tryz.results30, go_sem, e0, e1]) rfl ⟨_, _, rfl, y1, y2⟩


set_option maxRecDepth 100000 in
set_option maxHeartbeats 4000000 in
theorem ref12_One_pow0 {w : World} {va vb : Value} {L : List Ent} (hS : RSt w va vb L) (hO : SOk L) (hl : L.length ≤ 900) (m : Mk) (hm : m.Ok) (rs : List Int) {B : Nat} {a : Option Addr} {cap : Nat} (hR : RG idv 1 B w a rs) (h0 : 0 < rs.length) (h1 : rs.length ≤ 1000) (kk l r : Int) (hk : m.kind % 4 = kk) (hl' : pickR rs m.left = l) (hr' : pickR rs m.right = r) (kl : isKnown L l) (kr : isKnown L r) (hk3 : kk = 3) (hl0 : l = 0) :
    Calls Tryz.prog 30 #[.agg #[va, vb], .agg #[.int .i64 m.kind, .int .u8 m.letter, .int .i64 m.left, .int .i64 m.right, .int .i64 m.times], .slice a rs.length cap] w (OnePost w L 0) := by
  obtain ⟨⟨ra, rcap, rfl, _⟩, ⟨la, lcap, rfl, _⟩, _, _⟩ := id hS
  obtain ⟨i, b, off, hi, hi2, rfl, hlb, hci⟩ := pick_at hR h0 m.left
  obtain ⟨j, b', off', hj, hj2, hbb, _, hcj⟩ := pick_at hR h0 m.right
  simp only [Option.some.injEq, Addr.mk.injEq, and_true] at hbb
  obtain ⟨rfl, rfl⟩ := hbb
  rw [hl'] at hci
  rw [hr'] at hcj
  have CP1 := Lib.hid (fun W => ref12_Pick m.left rs.length W hm.left.1 hm.left.2 (by omega) (by omega))
  rw [hi] at CP1
  have CP2 := Lib.hid (fun W => ref12_Pick m.right rs.length W hm.right.1 hm.right.2 (by omega) (by omega))
  rw [hj] at CP2
  have CP3 := Lib.hid (fun W => ref12_Pick m.kind 4 W hm.kind.1 hm.kind.2 (by omega) (by omega))
  rw [hk] at CP3
  have ht1 := hm.times.1
  have ht2 := hm.times.2
  have x1 : (0 : Int) ≤ (i : Int) := by omega
  have x2 : (i : Int) < (rs.length : Int) := by omega
  have x3 : (0 : Int) ≤ (j : Int) := by omega
  have x4 : (j : Int) < (rs.length : Int) := by omega
  have HS := Lib.hid hS
  have CL := Lib.hid (fun W (hW : Fr0 w W) => ref12_Length (hS.kept0 hW) (by omega) l kl)
  have q0 : (kk == 0) = false := beq_eq_false_iff_ne.2 (by omega)
  have q1 : (kk == 3) = true := beq_iff_eq.2 (by omega)
  have q2 : (l == 0) = true := beq_iff_eq.2 (by omega)
  clear hk3 hl0
  clear hS hO hm hR hk hi hj hl' hr' kl kr
  go_enter Tryz.func30, Tryz.ntmps30
  go_wp2_with fail
  have hB : ∃ W0, W0 = ((w.alloc (.cells #[.slice ra L.length rcap, .slice la L.length lcap] 35 (0, 0))).alloc (.cells #[.int .i64 m.kind, .int .u8 m.letter, .int .i64 m.left, .int .i64 m.right, .int .i64 m.times] 83 (0, 0))).alloc (.cells #[.slice none 0 0, .slice none 0 0] 35 (0, 0)) := ⟨_, rfl⟩
  obtain ⟨W0, hW0⟩ := hB
  have F0 : Fr0 w W0 := by rw [hW0]; exact (((Fr0.refl w).alloc _).alloc _).alloc _
  have hz0 : W0.heap[w.heap.size]? = some (.cells #[.slice ra L.length rcap, .slice la L.length lcap] 35 (0, 0)) := by rw [hW0]; exact alloc3_0 w _ _ _
  have hz1 : W0.heap[w.heap.size + 1]? = some (.cells #[.int .i64 m.kind, .int .u8 m.letter, .int .i64 m.left, .int .i64 m.right, .int .i64 m.times] 83 (0, 0)) := by rw [hW0]; exact alloc3_1 w _ _ _
  have hz2 : W0.heap[w.heap.size + 1 + 1]? = some (.cells #[.slice none 0 0, .slice none 0 0] 35 (0, 0)) := by rw [hW0]; exact alloc3_2 w _ _ _
  rw [← hW0]
  obtain ⟨Z, hZ⟩ : ∃ Z, Z = w.heap.size := ⟨_, rfl⟩
  rw [← hZ] at hz0 hz1 hz2 ⊢
  have HZS := Lib.hid hZ
  have hci0 := (F0.cell b (off + i) hlb).trans hci
  have hcj0 := (F0.cell b (off + j) hlb).trans hcj
  have hlb0 : b < W0.heap.size := by have := Fr.size F0; omega
  obtain ⟨a0, a1, la0⟩ := cells2w hz0
  obtain ⟨b0, b1, b2, b3, b4, lb0⟩ := cells5w' hz1
  obtain ⟨g0, g1, gf, lg⟩ := cells2f hz2
  have HF0 := Lib.hid F0
  have HZ0 := Lib.hid hz0
  have HZ1 := Lib.hid hz1
  have HZ2 := Lib.hid hz2
  clear hW0 F0 hz0 hz1 hz2 hZ hci hcj
  refine (CP1.out _).mono ?_
  rintro e w' ⟨rfl, rfl⟩
  go_wp2_with fail
  refine (CP2.out _).mono ?_
  rintro e w' ⟨rfl, rfl⟩
  go_wp2_with fail
  refine (CP3.out _).mono ?_
  rintro e w' ⟨rfl, rfl⟩
  clear CP1 CP2 CP3
  go_wp2_with fail
  refine (CL.out _ HF0.out).mono ?_
  rintro e w3 ⟨rfl, FF⟩
  have hz0 := FF.kept HZ0.out
  have hz1 := FF.kept HZ1.out
  have hz2 := FF.kept HZ2.out
  clear a0 a1 la0 b0 b1 b2 b3 b4 lb0 g0 g1 gf lg
  obtain ⟨a0, a1, la0⟩ := cells2w hz0
  obtain ⟨b0, b1, b2, b3, b4, lb0⟩ := cells5w' hz1
  obtain ⟨g0, g1, gf, lg⟩ := cells2f hz2
  clear hz0 hz1 hz2
  have HFF := Lib.hid FF
  have HSS := Lib.hid (HS.out.kept0 (HF0.out.trans FF))
  clear FF CL
  generalize (entAt L l).wt.len = n at *
  go_wp2_with fail
  go_quiet (fail)
  have HX := Lib.hid (one_out HF0.out (HFF.out.drewN nq) HZ2.out HZS.out (HSS.out.kept0 ((Fr0.refl _).drewN nq)))
  go_wp2_with fail
  obtain ⟨y1, y2, e0, e1⟩ := HX.out
  exact bodyPost_ret (v := .tuple #[.agg #[.slice ra L.length rcap, .slice la L.length lcap], .int .i64 0]) (by simp [results, Tryz.results30, go_sem, e0, e1]) rfl ⟨_, _, rfl, y1, y2⟩


set_option maxRecDepth 100000 in
set_option maxHeartbeats 4000000 in
theorem ref12_One_pow1 {w : World} {va vb : Value} {L : List Ent} (hS : RSt w va vb L) (hO : SOk L) (hl : L.length ≤ 900) (m : Mk) (hm : m.Ok) (rs : List Int) {B : Nat} {a : Option Addr} {cap : Nat} (hR : RG idv 1 B w a rs) (h0 : 0 < rs.length) (h1 : rs.length ≤ 1000) (kk l r : Int) (hk : m.kind % 4 = kk) (hl' : pickR rs m.left = l) (hr' : pickR rs m.right = r) (kl : isKnown L l) (kr : isKnown L r) (hk3 : kk = 3) (hl0 : l ≠ 0) (ht : m.times ≤ 0) :
    Calls Tryz.prog 30 #[.agg #[va, vb], .agg #[.int .i64 m.kind, .int .u8 m.letter, .int .i64 m.left, .int .i64 m.right, .int .i64 m.times], .slice a rs.length cap] w (OnePost w L 0) := by
  obtain ⟨⟨ra, rcap, rfl, _⟩, ⟨la, lcap, rfl, _⟩, _, _⟩ := id hS
  obtain ⟨i, b, off, hi, hi2, rfl, hlb, hci⟩ := pick_at hR h0 m.left
  obtain ⟨j, b', off', hj, hj2, hbb, _, hcj⟩ := pick_at hR h0 m.right
  simp only [Option.some.injEq, Addr.mk.injEq, and_true] at hbb
  obtain ⟨rfl, rfl⟩ := hbb
  rw [hl'] at hci
  rw [hr'] at hcj
  have CP1 := Lib.hid (fun W => ref12_Pick m.left rs.length W hm.left.1 hm.left.2 (by omega) (by omega))
  rw [hi] at CP1
  have CP2 := Lib.hid (fun W => ref12_Pick m.right rs.length W hm.right.1 hm.right.2 (by omega) (by omega))
  rw [hj] at CP2
  have CP3 := Lib.hid (fun W => ref12_Pick m.kind 4 W hm.kind.1 hm.kind.2 (by omega) (by omega))
  rw [hk] at CP3
  have ht1 := hm.times.1
  have ht2 := hm.times.2
  have x1 : (0 : Int) ≤ (i : Int) := by omega
  have x2 : (i : Int) < (rs.length : Int) := by omega
  have x3 : (0 : Int) ≤ (j : Int) := by omega
  have x4 : (j : Int) < (rs.length : Int) := by omega
  have HS := Lib.hid hS
  have CL := Lib.hid (fun W (hW : Fr0 w W) => ref12_Length (hS.kept0 hW) (by omega) l kl)
  have q0 : (kk == 0) = false := beq_eq_false_iff_ne.2 (by omega)
  have q1 : (kk == 3) = true := beq_iff_eq.2 (by omega)
  have q2 : (l == 0) = false := beq_eq_false_iff_ne.2 (by omega)
  have q3 : decide (m.times ≤ 0) = true := decide_eq_true ht
  clear hk3 hl0
  clear hS hO hm hR hk hi hj hl' hr' kl kr
  go_enter Tryz.func30, Tryz.ntmps30
  go_wp2_with fail
  have hB : ∃ W0, W0 = ((w.alloc (.cells #[.slice ra L.length rcap, .slice la L.length lcap] 35 (0, 0))).alloc (.cells #[.int .i64 m.kind, .int .u8 m.letter, .int .i64 m.left, .int .i64 m.right, .int .i64 m.times] 83 (0, 0))).alloc (.cells #[.slice none 0 0, .slice none 0 0] 35 (0, 0)) := ⟨_, rfl⟩
  obtain ⟨W0, hW0⟩ := hB
  have F0 : Fr0 w W0 := by rw [hW0]; exact (((Fr0.refl w).alloc _).alloc _).alloc _
  have hz0 : W0.heap[w.heap.size]? = some (.cells #[.slice ra L.length rcap, .slice la L.length lcap] 35 (0, 0)) := by rw [hW0]; exact alloc3_0 w _ _ _
  have hz1 : W0.heap[w.heap.size + 1]? = some (.cells #[.int .i64 m.kind, .int .u8 m.letter, .int .i64 m.left, .int .i64 m.right, .int .i64 m.times] 83 (0, 0)) := by rw [hW0]; exact alloc3_1 w _ _ _
  have hz2 : W0.heap[w.heap.size + 1 + 1]? = some (.cells #[.slice none 0 0, .slice none 0 0] 35 (0, 0)) := by rw [hW0]; exact alloc3_2 w _ _ _
  rw [← hW0]
  obtain ⟨Z, hZ⟩ : ∃ Z, Z = w.heap.size := ⟨_, rfl⟩
  rw [← hZ] at hz0 hz1 hz2 ⊢
  have HZS := Lib.hid hZ
  have hci0 := (F0.cell b (off + i) hlb).trans hci
  have hcj0 := (F0.cell b (off + j) hlb).trans hcj
  have hlb0 : b < W0.heap.size := by have := Fr.size F0; omega
  obtain ⟨a0, a1, la0⟩ := cells2w hz0
  obtain ⟨b0, b1, b2, b3, b4, lb0⟩ := cells5w' hz1
  obtain ⟨g0, g1, gf, lg⟩ := cells2f hz2
  have HF0 := Lib.hid F0
  have HZ0 := Lib.hid hz0
  have HZ1 := Lib.hid hz1
  have HZ2 := Lib.hid hz2
  clear hW0 F0 hz0 hz1 hz2 hZ hci hcj
  refine (CP1.out _).mono ?_
  rintro e w' ⟨rfl, rfl⟩
  go_wp2_with fail
  refine (CP2.out _).mono ?_
  rintro e w' ⟨rfl, rfl⟩
  go_wp2_with fail
  refine (CP3.out _).mono ?_
  rintro e w' ⟨rfl, rfl⟩
  clear CP1 CP2 CP3
  go_wp2_with fail
  refine (CL.out _ HF0.out).mono ?_
  rintro e w3 ⟨rfl, FF⟩
  have hz0 := FF.kept HZ0.out
  have hz1 := FF.kept HZ1.out
  have hz2 := FF.kept HZ2.out
  clear a0 a1 la0 b0 b1 b2 b3 b4 lb0 g0 g1 gf lg
  obtain ⟨a0, a1, la0⟩ := cells2w hz0
  obtain ⟨b0, b1, b2, b3, b4, lb0⟩ := cells5w' hz1
  obtain ⟨g0, g1, gf, lg⟩ := cells2f hz2
  clear hz0 hz1 hz2
  have HFF := Lib.hid FF
  have HSS := Lib.hid (HS.out.kept0 (HF0.out.trans FF))
  clear FF CL
  generalize (entAt L l).wt.len = n at *
  go_wp2_with fail
  go_quiet (fail)
  have HX := Lib.hid (one_out HF0.out (HFF.out.drewN nq) HZ2.out HZS.out (HSS.out.kept0 ((Fr0.refl _).drewN nq)))
  go_wp2_with fail
  obtain ⟨y1, y2, e0, e1⟩ := HX.out
  exact bodyPost_ret (v := .tuple #[.agg #[.slice ra L.length rcap, .slice la L.length lcap], .int .i64 0]) (by simp [results, Tryz.results30, go_sem, e0, e1]) rfl ⟨_, _, rfl, y1, y2⟩


set_option maxRecDepth 100000 in
set_option maxHeartbeats 4000000 in
theorem ref12_One_pow2 {w : World} {va vb : Value} {L : List Ent} (hS : RSt w va vb L) (hO : SOk L) (hl : L.length ≤ 900) (m : Mk) (hm : m.Ok) (rs : List Int) {B : Nat} {a : Option Addr} {cap : Nat} (hR : RG idv 1 B w a rs) (h0 : 0 < rs.length) (h1 : rs.length ≤ 1000) (kk l r : Int) (hk : m.kind % 4 = kk) (hl' : pickR rs m.left = l) (hr' : pickR rs m.right = r) (kl : isKnown L l) (kr : isKnown L r) (hk3 : kk = 3) (hl0 : l ≠ 0) (n : Int) (hn : (entAt L l).wt.len = n) (hn1 : 1 ≤ n) (hn2 : n ≤ 1152921504606846976) (ht : 0 < m.times) (hd : 1152921504606846976 / n < m.times) :
    Calls Tryz.prog 30 #[.agg #[va, vb], .agg #[.int .i64 m.kind, .int .u8 m.letter, .int .i64 m.left, .int .i64 m.right, .int .i64 m.times], .slice a rs.length cap] w (OnePost w L 0) := by
  obtain ⟨⟨ra, rcap, rfl, _⟩, ⟨la, lcap, rfl, _⟩, _, _⟩ := id hS
  obtain ⟨i, b, off, hi, hi2, rfl, hlb, hci⟩ := pick_at hR h0 m.left
  obtain ⟨j, b', off', hj, hj2, hbb, _, hcj⟩ := pick_at hR h0 m.right
  simp only [Option.some.injEq, Addr.mk.injEq, and_true] at hbb
  obtain ⟨rfl, rfl⟩ := hbb
  rw [hl'] at hci
  rw [hr'] at hcj
  have CP1 := Lib.hid (fun W => ref12_Pick m.left rs.length W hm.left.1 hm.left.2 (by omega) (by omega))
  rw [hi] at CP1
  have CP2 := Lib.hid (fun W => ref12_Pick m.right rs.length W hm.right.1 hm.right.2 (by omega) (by omega))
  rw [hj] at CP2
  have CP3 := Lib.hid (fun W => ref12_Pick m.kind 4 W hm.kind.1 hm.kind.2 (by omega) (by omega))
  rw [hk] at CP3
  have ht1 := hm.times.1
  have ht2 := hm.times.2
  have x1 : (0 : Int) ≤ (i : Int) := by omega
  have x2 : (i : Int) < (rs.length : Int) := by omega
  have x3 : (0 : Int) ≤ (j : Int) := by omega
  have x4 : (j : Int) < (rs.length : Int) := by omega
  have HS := Lib.hid hS
  have CL := Lib.hid (fun W (hW : Fr0 w W) => ref12_Length (hS.kept0 hW) (by omega) l kl)
  rw [hn] at CL
  have q0 : (kk == 0) = false := beq_eq_false_iff_ne.2 (by omega)
  have q1 : (kk == 3) = true := beq_iff_eq.2 (by omega)
  have q2 : (l == 0) = false := beq_eq_false_iff_ne.2 (by omega)
  have q3 : decide (m.times ≤ 0) = false := decide_eq_false (by omega)
  have q4 : decide (1152921504606846976 / n < m.times) = true := decide_eq_true hd
  clear hk3 hl0 hn hd
  clear hS hO hm hR hk hi hj hl' hr' kl kr
  go_enter Tryz.func30, Tryz.ntmps30
  go_wp2_with fail
  have hB : ∃ W0, W0 = ((w.alloc (.cells #[.slice ra L.length rcap, .slice la L.length lcap] 35 (0, 0))).alloc (.cells #[.int .i64 m.kind, .int .u8 m.letter, .int .i64 m.left, .int .i64 m.right, .int .i64 m.times] 83 (0, 0))).alloc (.cells #[.slice none 0 0, .slice none 0 0] 35 (0, 0)) := ⟨_, rfl⟩
  obtain ⟨W0, hW0⟩ := hB
  have F0 : Fr0 w W0 := by rw [hW0]; exact (((Fr0.refl w).alloc _).alloc _).alloc _
  have hz0 : W0.heap[w.heap.size]? = some (.cells #[.slice ra L.length rcap, .slice la L.length lcap] 35 (0, 0)) := by rw [hW0]; exact alloc3_0 w _ _ _
  have hz1 : W0.heap[w.heap.size + 1]? = some (.cells #[.int .i64 m.kind, .int .u8 m.letter, .int .i64 m.left, .int .i64 m.right, .int .i64 m.times] 83 (0, 0)) := by rw [hW0]; exact alloc3_1 w _ _ _
  have hz2 : W0.heap[w.heap.size + 1 + 1]? = some (.cells #[.slice none 0 0, .slice none 0 0] 35 (0, 0)) := by rw [hW0]; exact alloc3_2 w _ _ _
  rw [← hW0]
  obtain ⟨Z, hZ⟩ : ∃ Z, Z = w.heap.size := ⟨_, rfl⟩
  rw [← hZ] at hz0 hz1 hz2 ⊢
  have HZS := Lib.hid hZ
  have hci0 := (F0.cell b (off + i) hlb).trans hci
  have hcj0 := (F0.cell b (off + j) hlb).trans hcj
  have hlb0 : b < W0.heap.size := by have := Fr.size F0; omega
  obtain ⟨a0, a1, la0⟩ := cells2w hz0
  obtain ⟨b0, b1, b2, b3, b4, lb0⟩ := cells5w' hz1
  obtain ⟨g0, g1, gf, lg⟩ := cells2f hz2
  have HF0 := Lib.hid F0
  have HZ0 := Lib.hid hz0
  have HZ1 := Lib.hid hz1
  have HZ2 := Lib.hid hz2
  clear hW0 F0 hz0 hz1 hz2 hZ hci hcj
  refine (CP1.out _).mono ?_
  rintro e w' ⟨rfl, rfl⟩
  go_wp2_with fail
  refine (CP2.out _).mono ?_
  rintro e w' ⟨rfl, rfl⟩
  go_wp2_with fail
  refine (CP3.out _).mono ?_
  rintro e w' ⟨rfl, rfl⟩
  clear CP1 CP2 CP3
  go_wp2_with fail
  refine (CL.out _ HF0.out).mono ?_
  rintro e w3 ⟨rfl, FF⟩
  have hz0 := FF.kept HZ0.out
  have hz1 := FF.kept HZ1.out
  have hz2 := FF.kept HZ2.out
  clear a0 a1 la0 b0 b1 b2 b3 b4 lb0 g0 g1 gf lg
  obtain ⟨a0, a1, la0⟩ := cells2w hz0
  obtain ⟨b0, b1, b2, b3, b4, lb0⟩ := cells5w' hz1
  obtain ⟨g0, g1, gf, lg⟩ := cells2f hz2
  clear hz0 hz1 hz2
  have HFF := Lib.hid FF
  have HSS := Lib.hid (HS.out.kept0 (HF0.out.trans FF))
  clear FF CL
  go_wp2_with fail
  go_quiet (fail)
  have HX := Lib.hid (one_out HF0.out (HFF.out.drewN nq) HZ2.out HZS.out (HSS.out.kept0 ((Fr0.refl _).drewN nq)))
  go_wp2_with fail
  obtain ⟨y1, y2, e0, e1⟩ := HX.out
  exact bodyPost_ret (v := .tuple #[.agg #[.slice ra L.length rcap, .slice la L.length lcap], .int .i64 0]) (by simp [results, Tryz.results30, go_sem, e0, e1]) rfl ⟨_, _, rfl, y1, y2⟩


set_option maxRecDepth 100000 in
set_option maxHeartbeats 4000000 in
theorem ref12_One_pow3 {w : World} {va vb : Value} {L : List Ent} (hS : RSt w va vb L) (hO : SOk L) (hl : L.length ≤ 900) (m : Mk) (hm : m.Ok) (rs : List Int) {B : Nat} {a : Option Addr} {cap : Nat} (hR : RG idv 1 B w a rs) (h0 : 0 < rs.length) (h1 : rs.length ≤ 1000) (kk l r : Int) (hk : m.kind % 4 = kk) (hl' : pickR rs m.left = l) (hr' : pickR rs m.right = r) (kl : isKnown L l) (kr : isKnown L r) (hk3 : kk = 3) (hl0 : l ≠ 0) (n : Int) (hn : (entAt L l).wt.len = n) (hn1 : 1 ≤ n) (hn2 : n ≤ 1152921504606846976) (ht : m.times = 1) :
    Calls Tryz.prog 30 #[.agg #[va, vb], .agg #[.int .i64 m.kind, .int .u8 m.letter, .int .i64 m.left, .int .i64 m.right, .int .i64 m.times], .slice a rs.length cap] w (OnePost w L l) := by
  obtain ⟨⟨ra, rcap, rfl, _⟩, ⟨la, lcap, rfl, _⟩, _, _⟩ := id hS
  obtain ⟨i, b, off, hi, hi2, rfl, hlb, hci⟩ := pick_at hR h0 m.left
  obtain ⟨j, b', off', hj, hj2, hbb, _, hcj⟩ := pick_at hR h0 m.right
  simp only [Option.some.injEq, Addr.mk.injEq, and_true] at hbb
  obtain ⟨rfl, rfl⟩ := hbb
  rw [hl'] at hci
  rw [hr'] at hcj
  have CP1 := Lib.hid (fun W => ref12_Pick m.left rs.length W hm.left.1 hm.left.2 (by omega) (by omega))
  rw [hi] at CP1
  have CP2 := Lib.hid (fun W => ref12_Pick m.right rs.length W hm.right.1 hm.right.2 (by omega) (by omega))
  rw [hj] at CP2
  have CP3 := Lib.hid (fun W => ref12_Pick m.kind 4 W hm.kind.1 hm.kind.2 (by omega) (by omega))
  rw [hk] at CP3
  have ht1 := hm.times.1
  have ht2 := hm.times.2
  have x1 : (0 : Int) ≤ (i : Int) := by omega
  have x2 : (i : Int) < (rs.length : Int) := by omega
  have x3 : (0 : Int) ≤ (j : Int) := by omega
  have x4 : (j : Int) < (rs.length : Int) := by omega
  have HS := Lib.hid hS
  have CL := Lib.hid (fun W (hW : Fr0 w W) => ref12_Length (hS.kept0 hW) (by omega) l kl)
  rw [hn] at CL
  have q0 : (kk == 0) = false := beq_eq_false_iff_ne.2 (by omega)
  have q1 : (kk == 3) = true := beq_iff_eq.2 (by omega)
  have q2 : (l == 0) = false := beq_eq_false_iff_ne.2 (by omega)
  have q3 : decide (m.times ≤ 0) = false := decide_eq_false (by omega)
  have q4 : decide (1152921504606846976 / n < m.times) = false := decide_eq_false (by have := Int.le_ediv_of_mul_le (a := 1) (b := 1152921504606846976) (show 0 < n by omega) (by omega); omega)
  have q5 : (m.times == 1) = true := beq_iff_eq.2 ht
  clear hk3 hl0 hn ht
  clear hS hO hm hR hk hi hj hl' hr' kl kr
  go_enter Tryz.func30, Tryz.ntmps30
  go_wp2_with fail
  have hB : ∃ W0, W0 = ((w.alloc (.cells #[.slice ra L.length rcap, .slice la L.length lcap] 35 (0, 0))).alloc (.cells #[.int .i64 m.kind, .int .u8 m.letter, .int .i64 m.left, .int .i64 m.right, .int .i64 m.times] 83 (0, 0))).alloc (.cells #[.slice none 0 0, .slice none 0 0] 35 (0, 0)) := ⟨_, rfl⟩
  obtain ⟨W0, hW0⟩ := hB
  have F0 : Fr0 w W0 := by rw [hW0]; exact (((Fr0.refl w).alloc _).alloc _).alloc _
  have hz0 : W0.heap[w.heap.size]? = some (.cells #[.slice ra L.length rcap, .slice la L.length lcap] 35 (0, 0)) := by rw [hW0]; exact alloc3_0 w _ _ _
  have hz1 : W0.heap[w.heap.size + 1]? = some (.cells #[.int .i64 m.kind, .int .u8 m.letter, .int .i64 m.left, .int .i64 m.right, .int .i64 m.times] 83 (0, 0)) := by rw [hW0]; exact alloc3_1 w _ _ _
  have hz2 : W0.heap[w.heap.size + 1 + 1]? = some (.cells #[.slice none 0 0, .slice none 0 0] 35 (0, 0)) := by rw [hW0]; exact alloc3_2 w _ _ _
  rw [← hW0]
  obtain ⟨Z, hZ⟩ : ∃ Z, Z = w.heap.size := ⟨_, rfl⟩
  rw [← hZ] at hz0 hz1 hz2 ⊢
  have HZS := Lib.hid hZ
  have hci0 := (F0.cell b (off + i) hlb).trans hci
  have hcj0 := (F0.cell b (off + j) hlb).trans hcj
  have hlb0 : b < W0.heap.size := by have := Fr.size F0; omega
  obtain ⟨a0, a1, la0⟩ := cells2w hz0
  obtain ⟨b0, b1, b2, b3, b4, lb0⟩ := cells5w' hz1
  obtain ⟨g0, g1, gf, lg⟩ := cells2f hz2
  have HF0 := Lib.hid F0
  have HZ0 := Lib.hid hz0
  have HZ1 := Lib.hid hz1
  have HZ2 := Lib.hid hz2
  clear hW0 F0 hz0 hz1 hz2 hZ hci hcj
  refine (CP1.out _).mono ?_
  rintro e w' ⟨rfl, rfl⟩
  go_wp2_with fail
  refine (CP2.out _).mono ?_
  rintro e w' ⟨rfl, rfl⟩
  go_wp2_with fail
  refine (CP3.out _).mono ?_
  rintro e w' ⟨rfl, rfl⟩
  clear CP1 CP2 CP3
  go_wp2_with fail
  refine (CL.out _ HF0.out).mono ?_
  rintro e w3 ⟨rfl, FF⟩
  have hz0 := FF.kept HZ0.out
  have hz1 := FF.kept HZ1.out
  have hz2 := FF.kept HZ2.out
  clear a0 a1 la0 b0 b1 b2 b3 b4 lb0 g0 g1 gf lg
  obtain ⟨a0, a1, la0⟩ := cells2w hz0
  obtain ⟨b0, b1, b2, b3, b4, lb0⟩ := cells5w' hz1
  obtain ⟨g0, g1, gf, lg⟩ := cells2f hz2
  clear hz0 hz1 hz2
  have HFF := Lib.hid FF
  have HSS := Lib.hid (HS.out.kept0 (HF0.out.trans FF))
  clear FF CL
  go_wp2_with fail
  go_quiet (fail)
  have HX := Lib.hid (one_out HF0.out (HFF.out.drewN nq) HZ2.out HZS.out (HSS.out.kept0 ((Fr0.refl _).drewN nq)))
  go_wp2_with fail
  obtain ⟨y1, y2, e0, e1⟩ := HX.out
  exact bodyPost_ret (v := .tuple #[.agg #[.slice ra L.length rcap, .slice la L.length lcap], .int .i64 l]) (by simp [results, Tryz.results30, go_sem, e0, e1]) rfl ⟨_, _, rfl, y1, y2⟩


set_option maxRecDepth 100000 in
set_option maxHeartbeats 4000000 in
theorem ref12_One_pow4 {w : World} {va vb : Value} {L : List Ent} (hS : RSt w va vb L) (hO : SOk L) (hl : L.length ≤ 900) (m : Mk) (hm : m.Ok) (rs : List Int) {B : Nat} {a : Option Addr} {cap : Nat} (hR : RG idv 1 B w a rs) (h0 : 0 < rs.length) (h1 : rs.length ≤ 1000) (kk l r : Int) (hk : m.kind % 4 = kk) (hl' : pickR rs m.left = l) (hr' : pickR rs m.right = r) (kl : isKnown L l) (kr : isKnown L r) (hk3 : kk = 3) (hl0 : l ≠ 0) (n : Int) (hn : (entAt L l).wt.len = n) (hn1 : 1 ≤ n) (hn2 : n ≤ 1152921504606846976) (ht : 1 < m.times) (hd : ¬ 1152921504606846976 / n < m.times) :
    Calls Tryz.prog 30 #[.agg #[va, vb], .agg #[.int .i64 m.kind, .int .u8 m.letter, .int .i64 m.left, .int .i64 m.right, .int .i64 m.times], .slice a rs.length cap] w (OnePost w (addL L (powEnt L l m.times)) (addI L (powEnt L l m.times))) := by
  obtain ⟨⟨ra, rcap, rfl, _⟩, ⟨la, lcap, rfl, _⟩, _, _⟩ := id hS
  obtain ⟨i, b, off, hi, hi2, rfl, hlb, hci⟩ := pick_at hR h0 m.left
  obtain ⟨j, b', off', hj, hj2, hbb, _, hcj⟩ := pick_at hR h0 m.right
  simp only [Option.some.injEq, Addr.mk.injEq, and_true] at hbb
  obtain ⟨rfl, rfl⟩ := hbb
  rw [hl'] at hci
  rw [hr'] at hcj
  have CP1 := Lib.hid (fun W => ref12_Pick m.left rs.length W hm.left.1 hm.left.2 (by omega) (by omega))
  rw [hi] at CP1
  have CP2 := Lib.hid (fun W => ref12_Pick m.right rs.length W hm.right.1 hm.right.2 (by omega) (by omega))
  rw [hj] at CP2
  have CP3 := Lib.hid (fun W => ref12_Pick m.kind 4 W hm.kind.1 hm.kind.2 (by omega) (by omega))
  rw [hk] at CP3
  have ht1 := hm.times.1
  have ht2 := hm.times.2
  have x1 : (0 : Int) ≤ (i : Int) := by omega
  have x2 : (i : Int) < (rs.length : Int) := by omega
  have x3 : (0 : Int) ≤ (j : Int) := by omega
  have x4 : (j : Int) < (rs.length : Int) := by omega
  have HS := Lib.hid hS
  have CL := Lib.hid (fun W (hW : Fr0 w W) => ref12_Length (hS.kept0 hW) (by omega) l kl)
  rw [hn] at CL
  have CA : Hid (∀ W, Fr0 w W → Calls Tryz.prog 52 #[.agg #[.slice ra L.length rcap, .slice la L.length lcap], .agg #[.int .i64 3, .int .u8 0, .int .i64 l, .int .i64 0, .int .i64 m.times], .int .i64 (n * m.times)] W (OnePost W (addL L (powEnt L l m.times)) (addI L (powEnt L l m.times)))) := by
    intro W hW
    have := ref12_Add (hS.kept0 hW) (powEnt L l m.times) (by omega)
    rw [← hn]
    exact this
  have q0 : (kk == 0) = false := beq_eq_false_iff_ne.2 (by omega)
  have q1 : (kk == 3) = true := beq_iff_eq.2 (by omega)
  have q2 : (l == 0) = false := beq_eq_false_iff_ne.2 (by omega)
  have q3 : decide (m.times ≤ 0) = false := decide_eq_false (by omega)
  have q4 : decide (1152921504606846976 / n < m.times) = false := decide_eq_false hd
  have q5 : (m.times == 1) = false := beq_eq_false_iff_ne.2 (by omega)
  have hmu : n * m.times ≤ 1152921504606846976 := by
    have h1 : m.times ≤ 1152921504606846976 / n := by omega
    have h2 := (Int.le_ediv_iff_mul_le (show 0 < n by omega)).1 h1
    rw [Int.mul_comm]; exact h2
  have hmu0 : 0 ≤ n * m.times := Int.mul_nonneg (by omega) (by omega)
  have q6 := IntWalk.i64_in (n * m.times) (by omega)
  clear hk3 hl0 hn hd
  clear hS hO hm hR hk hi hj hl' hr' kl kr
  go_enter Tryz.func30, Tryz.ntmps30
  go_wp2_with fail
  have hB : ∃ W0, W0 = ((w.alloc (.cells #[.slice ra L.length rcap, .slice la L.length lcap] 35 (0, 0))).alloc (.cells #[.int .i64 m.kind, .int .u8 m.letter, .int .i64 m.left, .int .i64 m.right, .int .i64 m.times] 83 (0, 0))).alloc (.cells #[.slice none 0 0, .slice none 0 0] 35 (0, 0)) := ⟨_, rfl⟩
  obtain ⟨W0, hW0⟩ := hB
  have F0 : Fr0 w W0 := by rw [hW0]; exact (((Fr0.refl w).alloc _).alloc _).alloc _
  have hz0 : W0.heap[w.heap.size]? = some (.cells #[.slice ra L.length rcap, .slice la L.length lcap] 35 (0, 0)) := by rw [hW0]; exact alloc3_0 w _ _ _
  have hz1 : W0.heap[w.heap.size + 1]? = some (.cells #[.int .i64 m.kind, .int .u8 m.letter, .int .i64 m.left, .int .i64 m.right, .int .i64 m.times] 83 (0, 0)) := by rw [hW0]; exact alloc3_1 w _ _ _
  have hz2 : W0.heap[w.heap.size + 1 + 1]? = some (.cells #[.slice none 0 0, .slice none 0 0] 35 (0, 0)) := by rw [hW0]; exact alloc3_2 w _ _ _
  rw [← hW0]
  obtain ⟨Z, hZ⟩ : ∃ Z, Z = w.heap.size := ⟨_, rfl⟩
  rw [← hZ] at hz0 hz1 hz2 ⊢
  have HZS := Lib.hid hZ
  have hci0 := (F0.cell b (off + i) hlb).trans hci
  have hcj0 := (F0.cell b (off + j) hlb).trans hcj
  have hlb0 : b < W0.heap.size := by have := Fr.size F0; omega
  obtain ⟨a0, a1, la0⟩ := cells2w hz0
  obtain ⟨b0, b1, b2, b3, b4, lb0⟩ := cells5w' hz1
  obtain ⟨g0, g1, gf, lg⟩ := cells2f hz2
  have HF0 := Lib.hid F0
  have HZ0 := Lib.hid hz0
  have HZ1 := Lib.hid hz1
  have HZ2 := Lib.hid hz2
  clear hW0 F0 hz0 hz1 hz2 hZ hci hcj
  refine (CP1.out _).mono ?_
  rintro e w' ⟨rfl, rfl⟩
  go_wp2_with fail
  refine (CP2.out _).mono ?_
  rintro e w' ⟨rfl, rfl⟩
  go_wp2_with fail
  refine (CP3.out _).mono ?_
  rintro e w' ⟨rfl, rfl⟩
  clear CP1 CP2 CP3
  go_wp2_with fail
  refine (CL.out _ HF0.out).mono ?_
  rintro e w3 ⟨rfl, FF⟩
  have hz0 := FF.kept HZ0.out
  have hz1 := FF.kept HZ1.out
  have hz2 := FF.kept HZ2.out
  clear a0 a1 la0 b0 b1 b2 b3 b4 lb0 g0 g1 gf lg
  obtain ⟨a0, a1, la0⟩ := cells2w hz0
  obtain ⟨b0, b1, b2, b3, b4, lb0⟩ := cells5w' hz1
  obtain ⟨g0, g1, gf, lg⟩ := cells2f hz2
  clear hz0 hz1 hz2
  have FALL0 := Lib.hid FF
  clear FF CL
  go_wp2_with fail
  go_quiet (fail)
  have FALL := Lib.hid (FALL0.out.drewN nq)
  clear FALL0
  go_wp2_with fail
  refine (CA.out _ (HF0.out.trans FALL.out)).mono ?_
  rintro e w5 ⟨va', vb', rfl, f5, hs5⟩
  have HX := Lib.hid (one_out HF0.out (FALL.out.trans f5) HZ2.out HZS.out hs5)
  obtain ⟨⟨ra', rcap', rfl, _⟩, ⟨la', lcap', rfl, _⟩, _, _⟩ := id hs5
  obtain ⟨g0', g1', gf', lg'⟩ := cells2f ((FALL.out.trans f5).kept HZ2.out)
  clear f5 hs5 CA g0 g1 gf lg a0 a1 la0 b0 b1 b2 b3 b4 lb0
  go_wp2_with fail
  obtain ⟨y1, y2, e0, e1⟩ := HX.out
  exact bodyPost_ret (v := .tuple #[.agg #[.slice ra' _ rcap', .slice la' _ lcap'], .int .i64 _]) (by simp [results, Tryz.results30, go_sem, e0, e1]) rfl ⟨_, _, rfl, y1, y2⟩


set_option maxRecDepth 100000 in
set_option maxHeartbeats 4000000 in
theorem ref12_One_long {w : World} {va vb : Value} {L : List Ent} (hS : RSt w va vb L) (hO : SOk L) (hl : L.length ≤ 900) (m : Mk) (hm : m.Ok) (rs : List Int) {B : Nat} {a : Option Addr} {cap : Nat} (hR : RG idv 1 B w a rs) (h0 : 0 < rs.length) (h1 : rs.length ≤ 1000) (kk l r : Int) (hk : m.kind % 4 = kk) (hl' : pickR rs m.left = l) (hr' : pickR rs m.right = r) (kl : isKnown L l) (kr : isKnown L r) (hk3 : kk = 1 ∨ kk = 2) (hl0 : l ≠ 0) (hr0 : r ≠ 0) (n k : Int) (hn : (entAt L l).wt.len = n) (hn1 : 0 ≤ n) (hn2 : n ≤ 1152921504606846976) (hkn : (entAt L r).wt.len = k) (hk1 : 0 ≤ k) (hk2 : k ≤ 1152921504606846976) (hd : 1152921504606846976 - k < n) :
    Calls Tryz.prog 30 #[.agg #[va, vb], .agg #[.int .i64 m.kind, .int .u8 m.letter, .int .i64 m.left, .int .i64 m.right, .int .i64 m.times], .slice a rs.length cap] w (OnePost w L 0) := by
  obtain ⟨⟨ra, rcap, rfl, _⟩, ⟨la, lcap, rfl, _⟩, _, _⟩ := id hS
  obtain ⟨i, b, off, hi, hi2, rfl, hlb, hci⟩ := pick_at hR h0 m.left
  obtain ⟨j, b', off', hj, hj2, hbb, _, hcj⟩ := pick_at hR h0 m.right
  simp only [Option.some.injEq, Addr.mk.injEq, and_true] at hbb
  obtain ⟨rfl, rfl⟩ := hbb
  rw [hl'] at hci
  rw [hr'] at hcj
  have CP1 := Lib.hid (fun W => ref12_Pick m.left rs.length W hm.left.1 hm.left.2 (by omega) (by omega))
  rw [hi] at CP1
  have CP2 := Lib.hid (fun W => ref12_Pick m.right rs.length W hm.right.1 hm.right.2 (by omega) (by omega))
  rw [hj] at CP2
  have CP3 := Lib.hid (fun W => ref12_Pick m.kind 4 W hm.kind.1 hm.kind.2 (by omega) (by omega))
  rw [hk] at CP3
  have ht1 := hm.times.1
  have ht2 := hm.times.2
  have x1 : (0 : Int) ≤ (i : Int) := by omega
  have x2 : (i : Int) < (rs.length : Int) := by omega
  have x3 : (0 : Int) ≤ (j : Int) := by omega
  have x4 : (j : Int) < (rs.length : Int) := by omega
  have HS := Lib.hid hS
  have CL := Lib.hid (fun W (hW : Fr0 w W) => ref12_Length (hS.kept0 hW) (by omega) l kl)
  rw [hn] at CL
  have CR := Lib.hid (fun W (hW : Fr0 w W) => ref12_Length (hS.kept0 hW) (by omega) r kr)
  rw [hkn] at CR
  have q0 : (kk == 0) = false := beq_eq_false_iff_ne.2 (by omega)
  have q1 : (kk == 3) = false := beq_eq_false_iff_ne.2 (by omega)
  have q2 : (l == 0) = false := beq_eq_false_iff_ne.2 (by omega)
  have q3 : (r == 0) = false := beq_eq_false_iff_ne.2 (by omega)
  have q4 : decide (1152921504606846976 - k < n) = true := decide_eq_true hd
  have qw := IntWalk.i64_in (1152921504606846976 - k) (by omega)
  clear hl0 hr0 hn hkn hd
  clear hS hO hm hR hk hi hj hl' hr' kl kr
  go_enter Tryz.func30, Tryz.ntmps30
  go_wp2_with fail
  have hB : ∃ W0, W0 = ((w.alloc (.cells #[.slice ra L.length rcap, .slice la L.length lcap] 35 (0, 0))).alloc (.cells #[.int .i64 m.kind, .int .u8 m.letter, .int .i64 m.left, .int .i64 m.right, .int .i64 m.times] 83 (0, 0))).alloc (.cells #[.slice none 0 0, .slice none 0 0] 35 (0, 0)) := ⟨_, rfl⟩
  obtain ⟨W0, hW0⟩ := hB
  have F0 : Fr0 w W0 := by rw [hW0]; exact (((Fr0.refl w).alloc _).alloc _).alloc _
  have hz0 : W0.heap[w.heap.size]? = some (.cells #[.slice ra L.length rcap, .slice la L.length lcap] 35 (0, 0)) := by rw [hW0]; exact alloc3_0 w _ _ _
  have hz1 : W0.heap[w.heap.size + 1]? = some (.cells #[.int .i64 m.kind, .int .u8 m.letter, .int .i64 m.left, .int .i64 m.right, .int .i64 m.times] 83 (0, 0)) := by rw [hW0]; exact alloc3_1 w _ _ _
  have hz2 : W0.heap[w.heap.size + 1 + 1]? = some (.cells #[.slice none 0 0, .slice none 0 0] 35 (0, 0)) := by rw [hW0]; exact alloc3_2 w _ _ _
  rw [← hW0]
  obtain ⟨Z, hZ⟩ : ∃ Z, Z = w.heap.size := ⟨_, rfl⟩
  rw [← hZ] at hz0 hz1 hz2 ⊢
  have HZS := Lib.hid hZ
  have hci0 := (F0.cell b (off + i) hlb).trans hci
  have hcj0 := (F0.cell b (off + j) hlb).trans hcj
  have hlb0 : b < W0.heap.size := by have := Fr.size F0; omega
  obtain ⟨a0, a1, la0⟩ := cells2w hz0
  obtain ⟨b0, b1, b2, b3, b4, lb0⟩ := cells5w' hz1
  obtain ⟨g0, g1, gf, lg⟩ := cells2f hz2
  have HF0 := Lib.hid F0
  have HZ0 := Lib.hid hz0
  have HZ1 := Lib.hid hz1
  have HZ2 := Lib.hid hz2
  clear hW0 F0 hz0 hz1 hz2 hZ hci hcj
  refine (CP1.out _).mono ?_
  rintro e w' ⟨rfl, rfl⟩
  go_wp2_with fail
  refine (CP2.out _).mono ?_
  rintro e w' ⟨rfl, rfl⟩
  go_wp2_with fail
  refine (CP3.out _).mono ?_
  rintro e w' ⟨rfl, rfl⟩
  clear CP1 CP2 CP3
  have HKEY : Hid (∀ W, Fr0 W0 W → Fr0 W0 W ∧ W.cell? ⟨Z, 0, none⟩ = some (.slice ra L.length rcap) ∧ W.cell? ⟨Z, 1, none⟩ = some (.slice la L.length lcap)) := fun W hW => ⟨hW, (cells2w (hW.kept HZ0.out)).1, (cells2w (hW.kept HZ0.out)).2.1⟩
  have hfr0 : Fr0 W0 W0 := Fr0.refl W0
  go_wp2_with fail
  go_region_held3 (fun w' => Fr0 W0 w' ∧ w'.cell? ⟨Z, 0, none⟩ = some (.slice ra L.length rcap) ∧ w'.cell? ⟨Z, 1, none⟩ = some (.slice la L.length lcap))
    (exact HKEY.out _ (by first | exact Fr0.refl _ | exact (Fr0.refl _).drew | exact (Fr0.refl _).drew.trans (by assumption) | exact ((Fr0.refl _).drew.trans (by assumption)).trans (by assumption)))
    ((first
      | (go_at_call 53; (with_reducible refine Calls.mono (CL.out _ (HF0.out.trans (by first | exact (Fr0.refl _).drew | exact (Fr0.refl _).drew.trans (by assumption) | exact ((Fr0.refl _).drew.trans (by assumption)).trans (by assumption)))) ?_); rintro e w3 ⟨rfl, hf3⟩)
      | (go_at_call 53; (with_reducible refine Calls.mono (CR.out _ (HF0.out.trans (by first | exact (Fr0.refl _).drew | exact (Fr0.refl _).drew.trans (by assumption) | exact ((Fr0.refl _).drew.trans (by assumption)).trans (by assumption)))) ?_); rintro e w3 ⟨rfl, hf3⟩)))
  all_goals
    have FF : Fr0 W0 w3 := ((Fr0.refl W0).drew.trans (by assumption)).trans hf3
    have hz2 := FF.kept HZ2.out
    have hz0 := FF.kept HZ0.out
    clear a0 a1 la0 b0 b1 b2 b3 b4 lb0 g0 g1 gf lg
    obtain ⟨a0, a1, la0⟩ := cells2w hz0
    obtain ⟨g0, g1, gf, lg⟩ := cells2f hz2
    have HX := Lib.hid (one_out HF0.out FF HZ2.out HZS.out (HS.out.kept0 (HF0.out.trans FF)))
    clear hz0 hz2 FF CL CR hfr0
    go_wp2_with fail
    obtain ⟨y1, y2, e0, e1⟩ := HX.out
    exact bodyPost_ret (v := .tuple #[.agg #[.slice ra L.length rcap, .slice la L.length lcap], .int .i64 0]) (by simp [results, Tryz.results30, go_sem, e0, e1]) rfl ⟨_, _, rfl, y1, y2⟩


set_option maxRecDepth 100000 in
set_option maxHeartbeats 4000000 in
theorem ref12_One_pair {w : World} {va vb : Value} {L : List Ent} (hS : RSt w va vb L) (hO : SOk L) (hl : L.length ≤ 900) (m : Mk) (hm : m.Ok) (rs : List Int) {B : Nat} {a : Option Addr} {cap : Nat} (hR : RG idv 1 B w a rs) (h0 : 0 < rs.length) (h1 : rs.length ≤ 1000) (kk l r : Int) (hk : m.kind % 4 = kk) (hl' : pickR rs m.left = l) (hr' : pickR rs m.right = r) (kl : isKnown L l) (kr : isKnown L r) (hk3 : kk = 1 ∨ kk = 2) (hl0 : l ≠ 0) (hr0 : r ≠ 0) (n k : Int) (hn : (entAt L l).wt.len = n) (hn1 : 0 ≤ n) (hn2 : n ≤ 1152921504606846976) (hkn : (entAt L r).wt.len = k) (hk1 : 0 ≤ k) (hk2 : k ≤ 1152921504606846976) (hd : ¬ 1152921504606846976 - k < n) :
    Calls Tryz.prog 30 #[.agg #[va, vb], .agg #[.int .i64 m.kind, .int .u8 m.letter, .int .i64 m.left, .int .i64 m.right, .int .i64 m.times], .slice a rs.length cap] w (OnePost w (addL L (pairEnt L l r)) (addI L (pairEnt L l r))) := by
  obtain ⟨⟨ra, rcap, rfl, _⟩, ⟨la, lcap, rfl, _⟩, _, _⟩ := id hS
  obtain ⟨i, b, off, hi, hi2, rfl, hlb, hci⟩ := pick_at hR h0 m.left
  obtain ⟨j, b', off', hj, hj2, hbb, _, hcj⟩ := pick_at hR h0 m.right
  simp only [Option.some.injEq, Addr.mk.injEq, and_true] at hbb
  obtain ⟨rfl, rfl⟩ := hbb
  rw [hl'] at hci
  rw [hr'] at hcj
  have CP1 := Lib.hid (fun W => ref12_Pick m.left rs.length W hm.left.1 hm.left.2 (by omega) (by omega))
  rw [hi] at CP1
  have CP2 := Lib.hid (fun W => ref12_Pick m.right rs.length W hm.right.1 hm.right.2 (by omega) (by omega))
  rw [hj] at CP2
  have CP3 := Lib.hid (fun W => ref12_Pick m.kind 4 W hm.kind.1 hm.kind.2 (by omega) (by omega))
  rw [hk] at CP3
  have ht1 := hm.times.1
  have ht2 := hm.times.2
  have x1 : (0 : Int) ≤ (i : Int) := by omega
  have x2 : (i : Int) < (rs.length : Int) := by omega
  have x3 : (0 : Int) ≤ (j : Int) := by omega
  have x4 : (j : Int) < (rs.length : Int) := by omega
  have HS := Lib.hid hS
  have CL := Lib.hid (fun W (hW : Fr0 w W) => ref12_Length (hS.kept0 hW) (by omega) l kl)
  rw [hn] at CL
  have CR := Lib.hid (fun W (hW : Fr0 w W) => ref12_Length (hS.kept0 hW) (by omega) r kr)
  rw [hkn] at CR
  have CA : Hid (∀ W, Fr0 w W → Calls Tryz.prog 52 #[.agg #[.slice ra L.length rcap, .slice la L.length lcap], .agg #[.int .i64 2, .int .u8 0, .int .i64 l, .int .i64 r, .int .i64 0], .int .i64 (n + k)] W (OnePost W (addL L (pairEnt L l r)) (addI L (pairEnt L l r)))) := by
    intro W hW
    have := ref12_Add (hS.kept0 hW) (pairEnt L l r) (by omega)
    rw [← hn, ← hkn]
    exact this
  have q0 : (kk == 0) = false := beq_eq_false_iff_ne.2 (by omega)
  have q1 : (kk == 3) = false := beq_eq_false_iff_ne.2 (by omega)
  have q2 : (l == 0) = false := beq_eq_false_iff_ne.2 (by omega)
  have q3 : (r == 0) = false := beq_eq_false_iff_ne.2 (by omega)
  have q4 : decide (1152921504606846976 - k < n) = false := decide_eq_false hd
  have qw := IntWalk.i64_in (1152921504606846976 - k) (by omega)
  have qs := IntWalk.i64_in (n + k) (by omega)
  clear hl0 hr0 hn hkn hd
  clear hS hO hm hR hk hi hj hl' hr' kl kr
  go_enter Tryz.func30, Tryz.ntmps30
  go_wp2_with fail
  have hB : ∃ W0, W0 = ((w.alloc (.cells #[.slice ra L.length rcap, .slice la L.length lcap] 35 (0, 0))).alloc (.cells #[.int .i64 m.kind, .int .u8 m.letter, .int .i64 m.left, .int .i64 m.right, .int .i64 m.times] 83 (0, 0))).alloc (.cells #[.slice none 0 0, .slice none 0 0] 35 (0, 0)) := ⟨_, rfl⟩
  obtain ⟨W0, hW0⟩ := hB
  have F0 : Fr0 w W0 := by rw [hW0]; exact (((Fr0.refl w).alloc _).alloc _).alloc _
  have hz0 : W0.heap[w.heap.size]? = some (.cells #[.slice ra L.length rcap, .slice la L.length lcap] 35 (0, 0)) := by rw [hW0]; exact alloc3_0 w _ _ _
  have hz1 : W0.heap[w.heap.size + 1]? = some (.cells #[.int .i64 m.kind, .int .u8 m.letter, .int .i64 m.left, .int .i64 m.right, .int .i64 m.times] 83 (0, 0)) := by rw [hW0]; exact alloc3_1 w _ _ _
  have hz2 : W0.heap[w.heap.size + 1 + 1]? = some (.cells #[.slice none 0 0, .slice none 0 0] 35 (0, 0)) := by rw [hW0]; exact alloc3_2 w _ _ _
  rw [← hW0]
  obtain ⟨Z, hZ⟩ : ∃ Z, Z = w.heap.size := ⟨_, rfl⟩
  rw [← hZ] at hz0 hz1 hz2 ⊢
  have HZS := Lib.hid hZ
  have hci0 := (F0.cell b (off + i) hlb).trans hci
  have hcj0 := (F0.cell b (off + j) hlb).trans hcj
  have hlb0 : b < W0.heap.size := by have := Fr.size F0; omega
  obtain ⟨a0, a1, la0⟩ := cells2w hz0
  obtain ⟨b0, b1, b2, b3, b4, lb0⟩ := cells5w' hz1
  obtain ⟨g0, g1, gf, lg⟩ := cells2f hz2
  have HF0 := Lib.hid F0
  have HZ0 := Lib.hid hz0
  have HZ1 := Lib.hid hz1
  have HZ2 := Lib.hid hz2
  clear hW0 F0 hz0 hz1 hz2 hZ hci hcj
  refine (CP1.out _).mono ?_
  rintro e w' ⟨rfl, rfl⟩
  go_wp2_with fail
  refine (CP2.out _).mono ?_
  rintro e w' ⟨rfl, rfl⟩
  go_wp2_with fail
  refine (CP3.out _).mono ?_
  rintro e w' ⟨rfl, rfl⟩
  clear CP1 CP2 CP3
  have HKEY : Hid (∀ W, Fr0 W0 W → Fr0 W0 W ∧ W.cell? ⟨Z, 0, none⟩ = some (.slice ra L.length rcap) ∧ W.cell? ⟨Z, 1, none⟩ = some (.slice la L.length lcap)) := fun W hW => ⟨hW, (cells2w (hW.kept HZ0.out)).1, (cells2w (hW.kept HZ0.out)).2.1⟩
  have hfr0 : Fr0 W0 W0 := Fr0.refl W0
  go_wp2_with fail
  go_region_held3 (fun w' => Fr0 W0 w' ∧ w'.cell? ⟨Z, 0, none⟩ = some (.slice ra L.length rcap) ∧ w'.cell? ⟨Z, 1, none⟩ = some (.slice la L.length lcap))
    (exact HKEY.out _ (by first | exact Fr0.refl _ | exact (Fr0.refl _).drew | exact (Fr0.refl _).drew.trans (by assumption) | exact ((Fr0.refl _).drew.trans (by assumption)).trans (by assumption)))
    ((first
      | (go_at_call 53; (with_reducible refine Calls.mono (CL.out _ (HF0.out.trans (by first | exact (Fr0.refl _).drew | exact (Fr0.refl _).drew.trans (by assumption) | exact ((Fr0.refl _).drew.trans (by assumption)).trans (by assumption)))) ?_); rintro e w3 ⟨rfl, hf3⟩)
      | (go_at_call 53; (with_reducible refine Calls.mono (CR.out _ (HF0.out.trans (by first | exact (Fr0.refl _).drew | exact (Fr0.refl _).drew.trans (by assumption) | exact ((Fr0.refl _).drew.trans (by assumption)).trans (by assumption)))) ?_); rintro e w3 ⟨rfl, hf3⟩)))
  all_goals
    have FF : Fr0 W0 w3 := ((Fr0.refl W0).drew.trans (by assumption)).trans hf3
    have HFF := Lib.hid FF
    have hz2 := FF.kept HZ2.out
    have hz0 := FF.kept HZ0.out
    clear a0 a1 la0 b0 b1 b2 b3 b4 lb0 g0 g1 gf lg
    obtain ⟨a0, a1, la0⟩ := cells2w hz0
    obtain ⟨g0, g1, gf, lg⟩ := cells2f hz2
    clear hz0 hz2 FF hfr0 HKEY
    go_wp2_with fail
    obtain ⟨W1, hW1⟩ : ∃ W1, W1 = w3 := ⟨_, rfl⟩
    rw [← hW1] at HFF g0 g1 gf lg a0 a1 la0 ⊢
    clear hW1
    have HK2 : Hid (∀ W, Fr (fun k => k = Z + 1 + 1) W1 W → Fr (fun k => k = Z + 1 + 1) W1 W ∧ W.cell? ⟨Z, 0, none⟩ = some (.slice ra L.length rcap) ∧ W.cell? ⟨Z, 1, none⟩ = some (.slice la L.length lcap)) := fun W hW => ⟨hW, (cells2w (hW.kept (HFF.out.kept HZ0.out) (by omega))).1, (cells2w (hW.kept (HFF.out.kept HZ0.out) (by omega))).2.1⟩
    go_region_held3 (fun w' => Fr (fun k => k = Z + 1 + 1) W1 w' ∧ w'.cell? ⟨Z, 0, none⟩ = some (.slice ra L.length rcap) ∧ w'.cell? ⟨Z, 1, none⟩ = some (.slice la L.length lcap))
      (exact HK2.out _ (by first | exact (Fr0.refl _).fr | exact (Fr0.refl _).drew.fr | exact ((Fr0.refl _).drew.trans (by assumption)).fr | exact (((Fr0.refl _).drew.trans (by assumption)).trans (by assumption)).fr | exact ((((Fr0.refl _).drew.trans (by assumption)).trans (by assumption)).trans (by assumption)).fr | exact Fr.setCell (S := fun k => k = Z + 1 + 1) (Fr.setCell (S := fun k => k = Z + 1 + 1) ((((Fr0.refl _).drew.trans (by assumption)).trans (by assumption)).trans (by assumption)).fr _ _ (fun _ => rfl)) _ _ (fun _ => rfl)))
      ((first
        | (go_at_call 53; (with_reducible refine Calls.mono (CL.out _ ((HF0.out.trans HFF.out).trans (by first | exact (Fr0.refl _).drew | exact (Fr0.refl _).drew.trans (by assumption) | exact ((Fr0.refl _).drew.trans (by assumption)).trans (by assumption)))) ?_); rintro e w3 ⟨rfl, hf3⟩)
        | (go_at_call 53; (with_reducible refine Calls.mono (CR.out _ ((HF0.out.trans HFF.out).trans (by first | exact (Fr0.refl _).drew | exact (Fr0.refl _).drew.trans (by assumption) | exact ((Fr0.refl _).drew.trans (by assumption)).trans (by assumption)))) ?_); rintro e w3 ⟨rfl, hf3⟩)
        | (go_at_call 52; (with_reducible refine Calls.mono (CA.out _ ((HF0.out.trans HFF.out).trans (by first | exact (Fr0.refl _).drew | exact (Fr0.refl _).drew.trans (by assumption) | exact ((Fr0.refl _).drew.trans (by assumption)).trans (by assumption)))) ?_); rintro e w3 ⟨va', vb', rfl, hf3, hs5⟩; obtain ⟨⟨ra', rcap', rfl, _⟩, ⟨la', lcap', rfl, _⟩, _, _⟩ := id hs5; have HS5 := Lib.hid hs5; have hff5 : Fr0 W1 w3 := (((Fr0.refl W1).drew.trans (by assumption)).trans (by assumption)).trans hf3; obtain ⟨g0', g1', gf', lg'⟩ := cells2f ((HFF.out.trans hff5).kept HZ2.out); have HX5 := Lib.hid (one_out HF0.out (HFF.out.trans hff5) HZ2.out HZS.out hs5); clear hs5 hff5)))
    all_goals
      go_wp2_with fail
      obtain ⟨y1, y2, e0, e1⟩ := HX5.out
      exact bodyPost_ret (v := .tuple #[.agg #[.slice ra' _ rcap', .slice la' _ lcap'], .int .i64 _]) (by simp [results, Tryz.results30, go_sem, e0, e1]) rfl ⟨_, _, rfl, y1, y2⟩


end Go.Proofs.YtodmpcnpedpheaaGreatDoor

/- evergreenref12.One as a whole; the walk of evergreenref12.Build. -/
set_option linter.unusedSimpArgs false
set_option linter.unusedVariables false
namespace Go.Proofs.YtodmpcnpedpheaaGreatDoor
open Go.RowKit

theorem ref12_One {w : World} {va vb : Value} {L : List Ent} (hS : RSt w va vb L) (hO : SOk L) (hl : L.length ≤ 900) (m : Mk) (hm : m.Ok) (rs : List Int) {B : Nat} {a : Option Addr} {cap : Nat} (hR : RG idv 1 B w a rs) (h0 : 0 < rs.length) (h1 : rs.length ≤ 1000) (hk : ∀ x ∈ rs, isKnown L x) :
    Calls Tryz.prog 30 #[.agg #[va, vb], .agg #[.int .i64 m.kind, .int .u8 m.letter, .int .i64 m.left, .int .i64 m.right, .int .i64 m.times], .slice a rs.length cap] w (OnePost w (oneL L m rs).1 (oneL L m rs).2) := by
  have kl := pick_known hk m.left
  have kr := pick_known hk m.right
  have ol := hO.at _ kl
  have or_ := hO.at _ kr
  have n1 := ol.1.len0
  have n2 := ol.1.len1
  have n3 := or_.1.len0
  have n4 := or_.1.len1
  have e0 := Int.emod_nonneg m.kind (show (4 : Int) ≠ 0 by omega)
  have e1 := Int.emod_lt_of_pos m.kind (show (0 : Int) < 4 by omega)
  unfold oneL MaxL
  by_cases c0 : m.kind % 4 = 0
  · rw [if_pos c0]
    exact ref12_One_letter hS hl m hm rs hR h0 h1 c0
  · rw [if_neg c0]
    by_cases c3 : m.kind % 4 = 3
    · rw [if_pos c3]
      by_cases l0 : pickR rs m.left = 0
      · rw [if_pos (.inl l0)]
        exact ref12_One_pow0 hS hO hl m hm rs hR h0 h1 _ _ _ rfl rfl rfl kl kr c3 l0
      · have hn := (ol.2.2.2 l0).1
        by_cases t0 : m.times ≤ 0
        · rw [if_pos (.inr (.inl t0))]
          exact ref12_One_pow1 hS hO hl m hm rs hR h0 h1 _ _ _ rfl rfl rfl kl kr c3 l0 t0
        · by_cases t1 : 1152921504606846976 / (entAt L (pickR rs m.left)).wt.len < m.times
          · rw [if_pos (.inr (.inr t1))]
            exact ref12_One_pow2 hS hO hl m hm rs hR h0 h1 _ _ _ rfl rfl rfl kl kr c3 l0 _ rfl hn n2 (by omega) t1
          · rw [if_neg (by rintro (h | h | h); exact l0 h; exact t0 h; exact t1 h)]
            by_cases t2 : m.times = 1
            · rw [if_pos t2]
              exact ref12_One_pow3 hS hO hl m hm rs hR h0 h1 _ _ _ rfl rfl rfl kl kr c3 l0 _ rfl hn n2 t2
            · rw [if_neg t2]
              exact ref12_One_pow4 hS hO hl m hm rs hR h0 h1 _ _ _ rfl rfl rfl kl kr c3 l0 _ rfl hn n2 (by omega) t1
    · rw [if_neg c3]
      have c12 : m.kind % 4 = 1 ∨ m.kind % 4 = 2 := by omega
      by_cases l0 : pickR rs m.left = 0
      · rw [if_pos l0]
        exact ref12_One_same0 hS hO hl m hm rs hR h0 h1 _ _ _ rfl rfl rfl kl kr c12 l0
      · rw [if_neg l0]
        by_cases r0 : pickR rs m.right = 0
        · rw [if_pos r0]
          exact ref12_One_same1 hS hO hl m hm rs hR h0 h1 _ _ _ rfl rfl rfl kl kr c12 l0 r0
        · rw [if_neg r0]
          by_cases hd : 1152921504606846976 - (entAt L (pickR rs m.right)).wt.len < (entAt L (pickR rs m.left)).wt.len
          · rw [if_pos hd]
            exact ref12_One_long hS hO hl m hm rs hR h0 h1 _ _ _ rfl rfl rfl kl kr c12 l0 r0 _ _ rfl n1 n2 rfl n3 n4 hd
          · rw [if_neg hd]
            exact ref12_One_pair hS hO hl m hm rs hR h0 h1 _ _ _ rfl rfl rfl kl kr c12 l0 r0 _ _ rfl n1 n2 rfl n3 n4 hd

/-- What a Make keeps: the entries are good, and the results are known. -/
theorem oneL_ok {L : List Ent} (hO : SOk L) {m : Mk} (hm : m.Ok) {rs : List Int} (hk : ∀ x ∈ rs, isKnown L x) :
    SOk (oneL L m rs).1 ∧ (∀ x ∈ rs ++ [(oneL L m rs).2], isKnown (oneL L m rs).1 x) ∧ L.length ≤ (oneL L m rs).1.length ∧ (oneL L m rs).1.length ≤ L.length + 1 ∧ ∃ M, (oneL L m rs).1 = L ++ M := by
  have kl := pick_known hk m.left
  have kr := pick_known hk m.right
  have same : ∀ id, isKnown L id → SOk L ∧ (∀ x ∈ rs ++ [id], isKnown L x) ∧ L.length ≤ L.length ∧ L.length ≤ L.length + 1 ∧ ∃ M, L = L ++ M := by
    intro id hid
    refine ⟨hO, fun x hx => ?_, Nat.le_refl _, by omega, [], by simp⟩
    rcases List.mem_append.1 hx with hx | hx
    · exact hk x hx
    · simp only [List.mem_singleton] at hx
      rw [hx]; exact hid
  have add : ∀ e, SOk (addL L e) → SOk (addL L e) ∧ (∀ x ∈ rs ++ [addI L e], isKnown (addL L e) x) ∧ L.length ≤ (addL L e).length ∧ (addL L e).length ≤ L.length + 1 ∧ ∃ M, addL L e = L ++ M := by
    intro e he
    obtain ⟨M, hM⟩ := addL_ext L e
    refine ⟨he, fun x hx => ?_, (addL_len L e).1, (addL_len L e).2, M, hM⟩
    rcases List.mem_append.1 hx with hx | hx
    · rw [hM]; exact isKnown_append M (hk x hx)
    · simp only [List.mem_singleton] at hx
      rw [hx]; exact (addI_known L e).1
  have zero : isKnown L 0 := ⟨Int.le_refl _, by show (0 : Int) ≤ _; omega⟩
  unfold oneL MaxL
  by_cases c0 : m.kind % 4 = 0
  · rw [if_pos c0]
    exact add _ (hO.letter _ hm.l0 hm.l1)
  · rw [if_neg c0]
    by_cases c3 : m.kind % 4 = 3
    · rw [if_pos c3]
      by_cases c : pickR rs m.left = 0 ∨ m.times ≤ 0 ∨ 1152921504606846976 / (entAt L (pickR rs m.left)).wt.len < m.times
      · rw [if_pos c]; exact same 0 zero
      · rw [if_neg c]
        have l0 : pickR rs m.left ≠ 0 := fun h => c (.inl h)
        by_cases t2 : m.times = 1
        · rw [if_pos t2]; exact same _ kl
        · rw [if_neg t2]
          refine add _ (hO.pow _ _ kl l0 (by omega) ?_)
          have hn := ((hO.at _ kl).2.2.2 l0).1
          have h2 := (Int.le_ediv_iff_mul_le (show 0 < (entAt L (pickR rs m.left)).wt.len by omega)).1 (show m.times ≤ 1152921504606846976 / (entAt L (pickR rs m.left)).wt.len by omega)
          rw [Int.mul_comm]; exact h2
    · rw [if_neg c3]
      by_cases l0 : pickR rs m.left = 0
      · rw [if_pos l0]; exact same _ kr
      · rw [if_neg l0]
        by_cases r0 : pickR rs m.right = 0
        · rw [if_pos r0]; exact same _ kl
        · rw [if_neg r0]
          by_cases hd : 1152921504606846976 - (entAt L (pickR rs m.right)).wt.len < (entAt L (pickR rs m.left)).wt.len
          · rw [if_pos hd]; exact same 0 zero
          · rw [if_neg hd]
            exact add _ (hO.pair _ _ kl kr l0 r0 (by omega))

/-- A list of Makes of the reference. -/
def allL (ms : List Mk) : List Ent × List Int := ms.foldl (fun s m => ((oneL s.1 m s.2).1, s.2 ++ [(oneL s.1 m s.2).2])) ([], [0])

theorem allL_take (ms : List Mk) (k : Nat) (h : k < ms.length) : allL (ms.take (k + 1)) = ((oneL (allL (ms.take k)).1 ms[k] (allL (ms.take k)).2).1, (allL (ms.take k)).2 ++ [(oneL (allL (ms.take k)).1 ms[k] (allL (ms.take k)).2).2]) := by
  unfold allL
  rw [List.take_succ_eq_append_getElem h, List.foldl_append]
  rfl

theorem allL_ok (ms : List Mk) (hm : ∀ m ∈ ms, m.Ok) : ∀ k, k ≤ ms.length → SOk (allL (ms.take k)).1 ∧ (∀ x ∈ (allL (ms.take k)).2, isKnown (allL (ms.take k)).1 x) ∧ (allL (ms.take k)).1.length ≤ k ∧ (allL (ms.take k)).2.length = k + 1 := by
  intro k
  induction k with
  | zero => exact fun _ => ⟨SOk.nil, fun x hx => by simp [allL] at hx; subst hx; exact ⟨Int.le_refl _, by simp [allL]⟩, by simp [allL], by simp [allL]⟩
  | succ k ih =>
    intro hk
    obtain ⟨h1, h2, h3, h4⟩ := ih (by omega)
    obtain ⟨q1, q2, q3, q4, _⟩ := oneL_ok h1 (hm ms[k] (List.getElem_mem _)) h2
    rw [allL_take ms k (by omega)]
    exact ⟨q1, q2, by show (oneL _ _ _).1.length ≤ _; omega, by rw [List.length_append, h4]; rfl⟩

end Go.Proofs.YtodmpcnpedpheaaGreatDoor

/- The walk of evergreenref12.Build. -/
set_option linter.unusedSimpArgs false
set_option linter.unusedVariables false
namespace Go.Proofs.YtodmpcnpedpheaaGreatDoor
open Go.RowKit

/-- The state of Build's loop. -/
structure BuR (w wr : World) (ms : List Mk) (k : Nat) (Z : Nat) (v va vb : Value) : Prop where
  fr : Fr0 w wr
  s : wr.heap[Z + 1]? = some (.cells #[va, vb] 35 (0, 0))
  r : wr.heap[Z]? = some (.cells #[.slice none 0 0, .slice none 0 0] 35 (0, 0))
  st : RSt wr va vb (allL (ms.take k)).1
  own : wr.ownsRow w.heap.size 38 1 v (allL (ms.take k)).2.length ((allL (ms.take k)).2.map fun x => Value.int .i64 x)

theorem idv_map (xs : List Int) : xs.flatMap idv = xs.map fun x => Value.int .i64 x := by
  induction xs with
  | nil => rfl
  | cons a r ih => rw [List.flatMap_cons, ih]; rfl

/-- What Build leaves. -/
def BuPost (w : World) (ms : List Mk) (e : Ending) (w' : World) : Prop :=
  ∃ va vb v, e = .returned (.tuple #[.agg #[va, vb], v]) ∧ Fr0 w w' ∧ RSt w' va vb (allL ms).1 ∧ w'.ownsRow w.heap.size 38 1 v (allL ms).2.length ((allL ms).2.map fun x => Value.int .i64 x)

set_option maxRecDepth 100000 in
set_option maxHeartbeats 4000000 in
theorem ref12_Build {B : Nat} {w : World} {a : Option Addr} {cap : Nat} {ms : List Mk} (hA : RG Mk.vals 5 B w a ms) (hl : ms.length ≤ 100) (hm : ∀ m ∈ ms, m.Ok) :
    Calls Tryz.prog 9 #[.slice a ms.length cap] w (BuPost w ms) := by
  have HA := Lib.hid hA
  have HOK := Lib.hid (allL_ok ms hm)
  have HM := Lib.hid hm
  clear hA hm
  have H0 : Hid (BuR w (((w.alloc (.cells #[.slice none 0 0, .slice none 0 0] 35 (0, 0))).alloc (.cells #[.slice none 0 0, .slice none 0 0] 35 (0, 0))).alloc (.cells #[.int .i64 0] 38 (0, 0))) ms 0 w.heap.size (.slice (some ⟨w.heap.size + 2, 0, none⟩) 1 1) (.slice none 0 0) (.slice none 0 0)) :=
    ⟨(((Fr0.refl w).alloc _).alloc _).alloc _, alloc3_1 w _ _ _, alloc3_0 w _ _ _, RSt.nil _, ⟨rfl, .inr ⟨w.heap.size + 2, 1, #[.int .i64 0], rfl, by omega, alloc3_2 w _ _ _, Nat.le_refl _, by unfold maxLen; omega, rfl, rfl⟩⟩⟩
  go_enter Tryz.func9, Tryz.ntmps9
  go_wp2_with fail
  obtain ⟨Z, hZ⟩ : ∃ Z, Z = w.heap.size := ⟨_, rfl⟩
  rw [← hZ] at H0 ⊢
  have HZS := Lib.hid hZ
  clear hZ
  go_loopw [5, 6] (fun v i wr => ∃ (k : Nat) (va vb : Value), k ≤ ms.length ∧ i = .int .i64 k ∧ BuR w wr ms k Z v va vb) (fun _ i _ => ms.length - (intOf i).toNat)
  case atStart => exact ⟨0, _, _, Nat.zero_le _, rfl, by first | exact H0.out | (have := H0.out; simpa using this)⟩
  case round =>
    clear H0
    obtain ⟨k, va, vb, hk, rfl, hr⟩ := hrel
    obtain ⟨ok1, ok2, ok3, ok4⟩ := HOK.out k hk
    by_cases hlt : k < ms.length
    · obtain ⟨b, off, rfl, lb, _, hc⟩ := (HA.out.kept0 hr.fr) k hlt
      obtain ⟨ca, ccap, rfl, hrg⟩ := rg_of_own (vals := idv) (size := 1) (B := 0) (w := wr) (fun _ _ => rfl) (by rw [idv_map]; exact hr.own) (by decide) (by decide)
      have c0 := hc 0 _ rfl
      have c1 := hc 1 _ rfl
      have c2 := hc 2 _ rfl
      have c3 := hc 3 _ rfl
      have c4 := hc 4 _ rfl
      rw [Nat.add_zero] at c0
      have hmk := HM.out ms[k] (List.getElem_mem _)
      have CO := Lib.hid (fun W (hW : Fr0 wr W) => ref12_One (cap := ccap) (hr.st.kept0 hW) ok1 (by omega) ms[k] hmk (allL (ms.take k)).2 (hrg.kept0 hW) (by omega) (by omega) ok2)
      have HTK := Lib.hid (allL_take ms k hlt)
      have HRR := Lib.hid hr
      have hrl : (allL (ms.take k)).2.length ≤ 1000000 := by omega
      obtain ⟨s0, s1, ls⟩ := cells2w hr.s
      have hKEY : Hid (∀ W, Fr0 wr W → Fr0 wr W ∧ W.cell? ⟨Z + 1, 0, none⟩ = some va ∧ W.cell? ⟨Z + 1, 1, none⟩ = some vb ∧ W.cell? ⟨b, off + k * 5, none⟩ = some (.int .i64 ms[k].kind) ∧ W.cell? ⟨b, off + k * 5 + 1, none⟩ = some (.int .u8 ms[k].letter) ∧ W.cell? ⟨b, off + k * 5 + 2, none⟩ = some (.int .i64 ms[k].left) ∧ W.cell? ⟨b, off + k * 5 + 3, none⟩ = some (.int .i64 ms[k].right) ∧ W.cell? ⟨b, off + k * 5 + 4, none⟩ = some (.int .i64 ms[k].times)) := fun W hW => ⟨hW, (cells2w (hW.kept hr.s)).1, (cells2w (hW.kept hr.s)).2.1, (hW.cell _ _ lb).trans c0, (hW.cell _ _ lb).trans c1, (hW.cell _ _ lb).trans c2, (hW.cell _ _ lb).trans c3, (hW.cell _ _ lb).trans c4⟩
      obtain ⟨⟨ra, rcap, rfl, _⟩, ⟨la, lcap, rfl, _⟩, _, _⟩ := id hr.st
      have q0 : (0 : Int) ≤ (k : Int) := by omega
      have q1 : (k : Int) < (ms.length : Int) := by omega
      have q2 : decide (k < ms.length) = true := decide_eq_true hlt
      clear hc hr hrg hmk ok1 ok2 ok3 ok4 HA HOK HM
      generalize ms[k] = m at *
      generalize hL0 : (allL (ms.take k)).1 = L at *
      generalize hR0 : (allL (ms.take k)).2 = rs at *
      have HL0 := Lib.hid hL0
      have HR0 := Lib.hid hR0
      clear hL0 hR0
      generalize hL1 : (oneL L m rs).1 = L1 at *
      generalize hI1 : (oneL L m rs).2 = id1 at *
      clear hL1 hI1
      go_wp2_with fail
      go_region_held3 (fun w' => Fr0 wr w' ∧ w'.cell? ⟨Z + 1, 0, none⟩ = some (.slice ra L.length rcap) ∧ w'.cell? ⟨Z + 1, 1, none⟩ = some (.slice la L.length lcap) ∧ w'.cell? ⟨b, off + k * 5, none⟩ = some (.int .i64 m.kind) ∧ w'.cell? ⟨b, off + k * 5 + 1, none⟩ = some (.int .u8 m.letter) ∧ w'.cell? ⟨b, off + k * 5 + 2, none⟩ = some (.int .i64 m.left) ∧ w'.cell? ⟨b, off + k * 5 + 3, none⟩ = some (.int .i64 m.right) ∧ w'.cell? ⟨b, off + k * 5 + 4, none⟩ = some (.int .i64 m.times))
        (exact hKEY.out _ (by first | exact Fr0.refl _ | exact (Fr0.refl _).drew | exact ((Fr0.refl _).alloc _).drew | exact hff3 | exact hff3.alloc _ | exact (hff3.setCell _ _ (Nat.le_refl _)).setCell _ _ (Nat.le_refl _) | exact ((hff3.alloc _).setCell _ _ hsz3).setCell _ _ hsz3))
        ((first
          | (go_at_call 30; (with_reducible refine Calls.mono (CO.out _ (by first | exact (Fr0.refl _).drew | exact ((Fr0.refl _).alloc _).drew)) ?_); rintro e w3 ⟨va', vb', rfl, hf3, hs5⟩; obtain ⟨⟨ra', rcap', rfl, _⟩, ⟨la', lcap', rfl, _⟩, _, _⟩ := id hs5; have HS5 := Lib.hid hs5; have hff3 : Fr0 wr w3 := (by first | exact (Fr0.refl _).drew.trans hf3 | exact (((Fr0.refl _).alloc _).drew).trans hf3); have hsz3 : wr.heap.size ≤ w3.heap.size := Fr.size hff3; (try (obtain ⟨n0, n1, nf, ln⟩ := cells2f (hf3.kept (show (wr.alloc (.cells #[.slice none 0 0, .slice none 0 0] 35 (0, 0))).drew.heap[wr.heap.size]? = _ from alloc_at wr (.cells #[.slice none 0 0, .slice none 0 0] 35 (0, 0)) _ rfl)); have HNB := Lib.hid (hf3.kept (show (wr.alloc (.cells #[.slice none 0 0, .slice none 0 0] 35 (0, 0))).drew.heap[wr.heap.size]? = _ from alloc_at wr (.cells #[.slice none 0 0, .slice none 0 0] 35 (0, 0)) _ rfl)))); clear hs5 hf3)))
      · have hN := alloc_at w3 (.cells #[.slice ra' L1.length rcap', .slice la' L1.length lcap'] 35 (0, 0)) _ rfl
        have HS6 := Lib.hid (HS5.out.kept0 ((Fr0.refl _).alloc (.cells #[.slice ra' L1.length rcap', .slice la' L1.length lcap'] 35 (0, 0))))
        have F6 := hff3.alloc (.cells #[.slice ra' L1.length rcap', .slice la' L1.length lcap'] 35 (0, 0))
        generalize w3.alloc (.cells #[.slice ra' L1.length rcap', .slice la' L1.length lcap'] 35 (0, 0)) = W6 at *
        generalize w3.heap.size = NB at *
        obtain ⟨n0, n1, ln⟩ := cells2w hN
        have hs6 := F6.kept HRR.out.s
        obtain ⟨s0', s1', sf', ls'⟩ := cells2f hs6
        have HS7 := Lib.hid ((HS6.out.set hs6 0 (.slice ra' L1.length rcap')).set (setCell_block hs6 0 (.slice ra' L1.length rcap')) 1 (.slice la' L1.length lcap'))
        have hs7 := setCell_block (setCell_block hs6 0 (.slice ra' L1.length rcap')) 1 (.slice la' L1.length lcap')
        have F7 : Fr0 w ((W6.setCell ⟨Z + 1, 0, none⟩ (.slice ra' L1.length rcap')).setCell ⟨Z + 1, 1, none⟩ (.slice la' L1.length lcap')) := (((HRR.out.fr.trans F6).setCell _ _ (by have := HZS.out; show _ ≤ Z + 1; omega)).setCell _ _ (by have := HZS.out; show _ ≤ Z + 1; omega))
        have FS : Fr (fun j => j = Z + 1) W6 ((W6.setCell ⟨Z + 1, 0, none⟩ (.slice ra' L1.length rcap')).setCell ⟨Z + 1, 1, none⟩ (.slice la' L1.length lcap')) := Fr.setCell (S := fun j => j = Z + 1) (Fr.setCell (S := fun j => j = Z + 1) (Fr.refl _ W6) _ _ (fun _ => rfl)) _ _ (fun _ => rfl)
        have hrow := FS.owns (F6.owns HRR.out.own) (by
          intro j hj e
          obtain ⟨cur, hc⟩ := owns_block (F6.owns HRR.out.own) hj
          exact ne_of_types hc hs6 (by decide) e)
        have hr7 := FS.kept (F6.kept HRR.out.r) (by omega)
        rw [HR0.out] at hrow
        have HF7 := Lib.hid F7
        have HS8 := Lib.hid hs7
        have HR8 := Lib.hid hr7
        have HROW := Lib.hid hrow
        have hbs7 : w.heap.size ≤ ((W6.setCell ⟨Z + 1, 0, none⟩ (.slice ra' L1.length rcap')).setCell ⟨Z + 1, 1, none⟩ (.slice la' L1.length lcap')).heap.size := Fr.size F7
        clear hN HS6 F6 hs6 hs7 F7 FS hr7 hff3 hsz3 HS5 CO hKEY s0 s1 ls
        go_wp2_with (at_builtin; refine wpList_pushR rt_id rfl _ _ rfl w.heap.size _ rs rfl hrow (by simpa using hbs7) 38 id1 1 W6.heap.size (by simp) rfl hrl ?_; intro v' w8 hO8 hg8 hat8)
        have hF8 := grown_fr hg8
        have hne : ∀ {T : TypeId} {j : Nat} {cur : Array Value} {f : Nat × Nat}, T ≠ 38 → (((W6.setCell ⟨Z + 1, 0, none⟩ (.slice ra' L1.length rcap')).setCell ⟨Z + 1, 1, none⟩ (.slice la' L1.length lcap')).alloc (.cells #[.int .i64 id1] 38 (0, 0))).heap[j]? = some (.cells cur T f) → ¬ (Value.slice ca rs.length ccap).ownBlock = some j := by
          intro T j cur f hT hj e
          obtain ⟨cur2, hc⟩ := owns_block (HROW.out.alloc (.cells #[.int .i64 id1] 38 (0, 0))) e
          exact ne_of_types hj hc hT rfl
        have hX : BuR w w8 ms (k + 1) Z v' (.slice ra' L1.length rcap') (.slice la' L1.length lcap') := by
          have hfa := (Fr0.refl ((W6.setCell ⟨Z + 1, 0, none⟩ (.slice ra' L1.length rcap')).setCell ⟨Z + 1, 1, none⟩ (.slice la' L1.length lcap'))).alloc (.cells #[.int .i64 id1] 38 (0, 0))
          refine ⟨Fr.grown (HF7.out.alloc _) hg8 (fun j hj hlt => by have := (HROW.out.lt j hj).1; omega), hF8.kept (hfa.kept HS8.out) (hne (by decide) (hfa.kept HS8.out)), hF8.kept (hfa.kept HR8.out) (hne (by decide) (hfa.kept HR8.out)), ?_, ?_⟩
          · rw [HTK.out]
            exact (HS7.out.kept0 hfa).fr hF8 (fun j cur f hj => hne (by decide) hj) (fun j cur f hj => hne (by decide) hj)
          · rw [HTK.out]
            exact hO8
        go_roundw
        case rel => exact ⟨k + 1, _, _, by omega, by go_num, hX⟩
        case measure => simp [intOf]; omega
      · have hN := setCell_block (setCell_block HNB.out 0 (.slice ra' L1.length rcap')) 1 (.slice la' L1.length lcap')
        have HS6 := Lib.hid ((HS5.out.set HNB.out 0 (.slice ra' L1.length rcap')).set (setCell_block HNB.out 0 (.slice ra' L1.length rcap')) 1 (.slice la' L1.length lcap'))
        have F6 : Fr0 wr ((w3.setCell ⟨wr.heap.size, 0, none⟩ (.slice ra' L1.length rcap')).setCell ⟨wr.heap.size, 1, none⟩ (.slice la' L1.length lcap')) := (hff3.setCell _ _ (Nat.le_refl _)).setCell _ _ (Nat.le_refl _)
        clear n0 n1 nf ln HNB
        generalize (w3.setCell ⟨wr.heap.size, 0, none⟩ (.slice ra' L1.length rcap')).setCell ⟨wr.heap.size, 1, none⟩ (.slice la' L1.length lcap') = W6 at *
        obtain ⟨NB, hNB⟩ : ∃ NB, NB = wr.heap.size := ⟨_, rfl⟩
        rw [← hNB] at hN ⊢
        clear hNB
        obtain ⟨n0, n1, ln⟩ := cells2w hN
        have hs6 := F6.kept HRR.out.s
        obtain ⟨s0', s1', sf', ls'⟩ := cells2f hs6
        have HS7 := Lib.hid ((HS6.out.set hs6 0 (.slice ra' L1.length rcap')).set (setCell_block hs6 0 (.slice ra' L1.length rcap')) 1 (.slice la' L1.length lcap'))
        have hs7 := setCell_block (setCell_block hs6 0 (.slice ra' L1.length rcap')) 1 (.slice la' L1.length lcap')
        have F7 : Fr0 w ((W6.setCell ⟨Z + 1, 0, none⟩ (.slice ra' L1.length rcap')).setCell ⟨Z + 1, 1, none⟩ (.slice la' L1.length lcap')) := (((HRR.out.fr.trans F6).setCell _ _ (by have := HZS.out; show _ ≤ Z + 1; omega)).setCell _ _ (by have := HZS.out; show _ ≤ Z + 1; omega))
        have FS : Fr (fun j => j = Z + 1) W6 ((W6.setCell ⟨Z + 1, 0, none⟩ (.slice ra' L1.length rcap')).setCell ⟨Z + 1, 1, none⟩ (.slice la' L1.length lcap')) := Fr.setCell (S := fun j => j = Z + 1) (Fr.setCell (S := fun j => j = Z + 1) (Fr.refl _ W6) _ _ (fun _ => rfl)) _ _ (fun _ => rfl)
        have hrow := FS.owns (F6.owns HRR.out.own) (by
          intro j hj e
          obtain ⟨cur, hc⟩ := owns_block (F6.owns HRR.out.own) hj
          exact ne_of_types hc hs6 (by decide) e)
        have hr7 := FS.kept (F6.kept HRR.out.r) (by omega)
        rw [HR0.out] at hrow
        have HF7 := Lib.hid F7
        have HS8 := Lib.hid hs7
        have HR8 := Lib.hid hr7
        have HROW := Lib.hid hrow
        have hbs7 : w.heap.size ≤ ((W6.setCell ⟨Z + 1, 0, none⟩ (.slice ra' L1.length rcap')).setCell ⟨Z + 1, 1, none⟩ (.slice la' L1.length lcap')).heap.size := Fr.size F7
        clear hN HS6 F6 hs6 hs7 F7 FS hr7 hff3 hsz3 HS5 CO hKEY s0 s1 ls
        go_wp2_with (at_builtin; refine wpList_pushR rt_id rfl _ _ rfl w.heap.size _ rs rfl hrow (by simpa using hbs7) 38 id1 1 W6.heap.size (by simp) rfl hrl ?_; intro v' w8 hO8 hg8 hat8)
        have hF8 := grown_fr hg8
        have hne : ∀ {T : TypeId} {j : Nat} {cur : Array Value} {f : Nat × Nat}, T ≠ 38 → (((W6.setCell ⟨Z + 1, 0, none⟩ (.slice ra' L1.length rcap')).setCell ⟨Z + 1, 1, none⟩ (.slice la' L1.length lcap')).alloc (.cells #[.int .i64 id1] 38 (0, 0))).heap[j]? = some (.cells cur T f) → ¬ (Value.slice ca rs.length ccap).ownBlock = some j := by
          intro T j cur f hT hj e
          obtain ⟨cur2, hc⟩ := owns_block (HROW.out.alloc (.cells #[.int .i64 id1] 38 (0, 0))) e
          exact ne_of_types hj hc hT rfl
        have hX : BuR w w8 ms (k + 1) Z v' (.slice ra' L1.length rcap') (.slice la' L1.length lcap') := by
          have hfa := (Fr0.refl ((W6.setCell ⟨Z + 1, 0, none⟩ (.slice ra' L1.length rcap')).setCell ⟨Z + 1, 1, none⟩ (.slice la' L1.length lcap'))).alloc (.cells #[.int .i64 id1] 38 (0, 0))
          refine ⟨Fr.grown (HF7.out.alloc _) hg8 (fun j hj hlt => by have := (HROW.out.lt j hj).1; omega), hF8.kept (hfa.kept HS8.out) (hne (by decide) (hfa.kept HS8.out)), hF8.kept (hfa.kept HR8.out) (hne (by decide) (hfa.kept HR8.out)), ?_, ?_⟩
          · rw [HTK.out]
            exact (HS7.out.kept0 hfa).fr hF8 (fun j cur f hj => hne (by decide) hj) (fun j cur f hj => hne (by decide) hj)
          · rw [HTK.out]
            exact hO8
        go_roundw
        case rel => exact ⟨k + 1, _, _, by omega, by go_num, hX⟩
        case measure => simp [intOf]; omega
    · have hke : ms.take k = ms := List.take_of_length_le (by omega)
      have q2 : decide (k < ms.length) = false := decide_eq_false hlt
      have hst := hr.st
      have hown := hr.own
      rw [hke] at hst hown
      obtain ⟨⟨ra, rcap, rfl, _⟩, ⟨la, lcap, rfl, _⟩, _, _⟩ := id hst
      obtain ⟨ca, ccap, rfl⟩ := owns_form hr.own
      rw [hke] at hown ⊢
      obtain ⟨s0, s1, ls⟩ := cells2w hr.s
      obtain ⟨r0, r1, rf, lr⟩ := cells2f hr.r
      have hE1 := setCell_block hr.r 0 (.slice ra (allL ms).1.length rcap)
      have hE2 := setCell_block hE1 1 (.slice la (allL ms).1.length lcap)
      have HS8 := Lib.hid ((hst.set hr.r 0 (.slice ra (allL ms).1.length rcap)).set hE1 1 (.slice la (allL ms).1.length lcap))
      have FS : Fr (fun j => j = Z) wr ((wr.setCell ⟨Z, 0, none⟩ (.slice ra (allL ms).1.length rcap)).setCell ⟨Z, 1, none⟩ (.slice la (allL ms).1.length lcap)) := Fr.setCell (S := fun j => j = Z) (Fr.setCell (S := fun j => j = Z) (Fr.refl _ wr) _ _ (fun _ => rfl)) _ _ (fun _ => rfl)
      have HO8 := Lib.hid (FS.owns hown (by
        intro j hj e
        obtain ⟨cur, hc⟩ := owns_block hown hj
        exact ne_of_types hc hr.r (by decide) e))
      have HF8 : Hid (Fr0 w ((wr.setCell ⟨Z, 0, none⟩ (.slice ra (allL ms).1.length rcap)).setCell ⟨Z, 1, none⟩ (.slice la (allL ms).1.length lcap))) := (hr.fr.setCell _ _ (by have := HZS.out; show _ ≤ Z; omega)).setCell _ _ (by have := HZS.out; show _ ≤ Z; omega)
      obtain ⟨e0, e1, _⟩ := cells2w hE2
      have E0 := Lib.hid e0
      have E1 := Lib.hid e1
      clear hr hst hown hE1 hE2 FS e0 e1 ok1 ok2 ok3 ok4 HA HOK HM hke
      go_wp2_with fail
      exact bodyPost_ret (v := .tuple #[.agg #[.slice ra (allL ms).1.length rcap, .slice la (allL ms).1.length lcap], .slice ca (allL ms).2.length ccap]) (by simp [results, Tryz.results9, go_sem, E0.out, E1.out]) rfl ⟨_, _, _, rfl, HF8.out, HS8.out, HO8.out⟩

end Go.Proofs.YtodmpcnpedpheaaGreatDoor

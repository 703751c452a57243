/- 'append(append([]T{}, xs...), y)' in a region that draws its order: one chain of four operations. -/
import Derived.Test.YtclpndigmidjkaaGreatQDrw
import Derived.Test.YtclpndigmidjkaaGreatQR37a
set_option linter.unusedSimpArgs false
set_option linter.unusedVariables false
namespace Go.Proofs.YtclpndigmidjkaaGreat
open Go.RowKit

theorem wp_append_rt {ST T : TypeId} {size bytes : Nat} (hT : RT ST T size bytes) {w : World} {o : Oper} {a : Act} {K : Act → World → Prop} {Q : Exit → Act → World → Prop} (s x : Operand)
    (ho : o.op = .call { callee := .builtin .append, args := #[s, x], argTypes := #[ST, ST] })
    (B : Nat) (v : Value) (n : Nat) (xs : List Value) (hs : a.eval s = v) (hown : w.ownsRow B T size v n xs) (src : Value) (m : Nat) (news : List Value) (hx : a.eval x = src) (hsrc : SrcAt w src m news)
    (hl : news.length = m * size) (h1 : ∀ u ∈ news, u.oneCell' = true) (h63 : n + m ≤ maxLen) (hb : (n + m) * bytes ≤ 140737488355328) (hB : B ≤ w.heap.size)
    (h : ∀ v' w', w'.ownsRow B T size v' (n + m) (xs ++ news) → w.grownBy w' v.ownBlock → (v'.ownBlock = v.ownBlock ∨ v'.ownBlock = some w.heap.size) → K (a.put o.dst v') w') : Oper.wp Tryz.prog o a w K Q := by
  obtain ⟨v', w', hr, h2, h3, h4⟩ := run_append_rt hT w o.type B v n xs hown src m news hsrc hl h1 h63 hb hB
  unfold Oper.wp execOp
  simp only [ho, resolve, invoke, builtin, Sem.run_bind, Sem.run_pure, Result.andThen_ok, List.map_toArray, List.map_cons, List.map_nil, hs, hx, hr]
  exact h v' w' h2 h3 h4

/-- What is known of a chain: p: the empty slice; q: with xs; r: the slice of y; z: the whole. -/
structure Ch (T : TypeId) (size base : Nat) (p q r z : Bool) (vp vq vr vz : Value) (w : World) (n : Nat) (xs ys : List Value) : Prop where
  cp : p = true → q = false → w.ownsRow base T size vp 0 []
  cq : q = true → z = false → w.ownsRow base T size vq n xs
  cr : r = true → z = false → ∃ g, vr = .slice (some ⟨g, 0, none⟩) 1 1 ∧ w.heap[g]? = some (.cells ys.toArray T (0, 0))
  np : p = true → q = false → r = true → z = false → vp.ownBlock ≠ vr.ownBlock
  nq : q = true → r = true → z = false → vq.ownBlock ≠ vr.ownBlock
  cz : z = true → w.ownsRow base T size vz (n + 1) (xs ++ ys)
  qp : q = true → p = true
  zq : z = true → q = true ∧ r = true

theorem Ch.start (T : TypeId) (size base : Nat) (vp vq vr vz : Value) (w : World) (n : Nat) (xs ys : List Value) : Ch T size base false false false false vp vq vr vz w n xs ys := by
  constructor <;> intro h <;> cases h

/-- Nothing of the chain's has changed. -/
theorem Ch.kept {T : TypeId} {size base : Nat} {p q r z : Bool} {vp vq vr vz : Value} {w w' : World} {n : Nat} {xs ys : List Value} (h : Ch T size base p q r z vp vq vr vz w n xs ys) {S : Nat → Prop} (hf : Fr S w w') (hS : ∀ k cur, w.heap[k]? = some (.cells cur T (0, 0)) → ¬ S k) : Ch T size base p q r z vp vq vr vz w' n xs ys := by
  have ho : ∀ {v : Value} {m : Nat} {us : List Value}, w.ownsRow base T size v m us → w'.ownsRow base T size v m us := by
    intro v m us ho
    refine hf.owns ho ?_
    intro k hk
    obtain ⟨cur, hc⟩ := owns_block ho hk
    exact hS k cur hc
  refine ⟨fun a b => ho (h.cp a b), fun a b => ho (h.cq a b), fun a b => ?_, h.np, h.nq, fun a => ho (h.cz a), h.qp, h.zq⟩
  obtain ⟨g, h1, h2⟩ := h.cr a b
  exact ⟨g, h1, hf.kept h2 (hS g _ h2)⟩

theorem Ch.alloc {T : TypeId} {size base : Nat} {p q r z : Bool} {vp vq vr vz : Value} {w : World} {n : Nat} {xs ys : List Value} (h : Ch T size base p q r z vp vq vr vz w n xs ys) (o : Obj) : Ch T size base p q r z vp vq vr vz (w.alloc o) n xs ys := h.kept (S := fun _ => False) ((Fr.refl _ w).alloc o) (fun _ _ _ h => h)

/-- The empty slice. -/
theorem Ch.stepP {T : TypeId} {size base : Nat} {p q r z : Bool} {vp vq vr vz : Value} {w : World} {n : Nat} {xs ys : List Value} (h : Ch T size base p q r z vp vq vr vz w n xs ys) (hp0 : p = false) (hb : base ≤ w.heap.size) : Ch T size base true q r z (.slice (some ⟨w.heap.size, 0, none⟩) 0 0) vq vr vz (w.alloc (.cells #[] T (0, 0))) n xs ys := by
  subst hp0
  obtain rfl : q = false := by
    cases q with
    | false => rfl
    | true => exact (h.qp rfl).symm
  obtain rfl : z = false := by
    cases z with
    | false => rfl
    | true => exact (h.zq rfl).1.symm
  have h2 := h.alloc (.cells #[] T (0, 0))
  refine ⟨fun _ _ => ⟨by simp, .inr ⟨w.heap.size, 0, #[], rfl, hb, alloc_at _ _ _ rfl, Nat.le_refl _, Nat.zero_le _, by simp, by simp⟩⟩, fun a => (by cases a), h2.cr, fun _ _ hr hz => ?_, fun a => (by cases a), fun a => (by cases a), fun a => (by cases a), fun a => (by cases a)⟩
  obtain ⟨g, h3, h4⟩ := h.cr hr hz
  have := lt_of_block h4
  rw [h3]
  simp only [Value.ownBlock, ne_eq, Option.some.injEq]
  omega

/-- The slice of y. -/
theorem Ch.stepR {T : TypeId} {size base : Nat} {p q r z : Bool} {vp vq vr vz : Value} {w : World} {n : Nat} {xs ys : List Value} (h : Ch T size base p q r z vp vq vr vz w n xs ys) (hr0 : r = false) : Ch T size base p q true z vp vq (.slice (some ⟨w.heap.size, 0, none⟩) 1 1) vz (w.alloc (.cells ys.toArray T (0, 0))) n xs ys := by
  subst hr0
  obtain rfl : z = false := by
    cases z with
    | false => rfl
    | true => exact (h.zq rfl).2.symm
  have h2 := h.alloc (.cells ys.toArray T (0, 0))
  refine ⟨h2.cp, h2.cq, fun _ _ => ⟨w.heap.size, rfl, alloc_at _ _ _ rfl⟩, fun hp hq _ _ e => ?_, fun hq _ hz e => ?_, fun a => (by cases a), h.qp, fun a => (by cases a)⟩
  · exact Nat.lt_irrefl _ ((h.cp hp hq).lt _ e).2
  · exact Nat.lt_irrefl _ ((h.cq hq hz).lt _ e).2

theorem grown_fr {w w' : World} {row : Option Nat} (h : w.grownBy w' row) : Fr (fun k => row = some k) w w' := Fr.grown (Fr.refl _ w) h (fun k hk _ => hk)

/-- xs is appended. -/
theorem Ch.stepQ {T : TypeId} {size base : Nat} {p q r z : Bool} {vp vq vr vz v' : Value} {w w' : World} {n : Nat} {xs ys : List Value} (h : Ch T size base p q r z vp vq vr vz w n xs ys) (hp0 : p = true) (hq0 : q = false) (h1 : w'.ownsRow base T size v' (0 + n) ([] ++ xs)) (hg : w.grownBy w' vp.ownBlock) (ha : v'.ownBlock = vp.ownBlock ∨ v'.ownBlock = some w.heap.size) : Ch T size base p true r z vp v' vr vz w' n xs ys := by
  subst hp0 hq0
  obtain rfl : z = false := by
    cases z with
    | false => rfl
    | true => exact (h.zq rfl).1.symm
  have hf := grown_fr hg
  have hcr : r = true → ∃ g, vr = .slice (some ⟨g, 0, none⟩) 1 1 ∧ w'.heap[g]? = some (.cells ys.toArray T (0, 0)) ∧ g < w.heap.size := by
    intro hr
    obtain ⟨g, h3, h4⟩ := h.cr hr rfl
    have hne := h.np rfl rfl hr rfl
    rw [h3] at hne
    exact ⟨g, h3, hf.kept h4 hne, lt_of_block h4⟩
  refine ⟨fun _ a => (by cases a), fun _ _ => by simpa using h1, fun hr _ => ?_, fun _ a => (by cases a), fun _ hr _ => ?_, fun a => (by cases a), fun _ => rfl, fun a => (by cases a)⟩
  · obtain ⟨g, h3, h4, _⟩ := hcr hr
    exact ⟨g, h3, h4⟩
  · obtain ⟨g, h3, h4, h5⟩ := hcr hr
    rcases ha with ha | ha
    · rw [ha]; exact h.np rfl rfl hr rfl
    · rw [ha, h3]
      simp only [Value.ownBlock, ne_eq, Option.some.injEq]
      omega

/-- y is appended. -/
theorem Ch.stepZ {T : TypeId} {size base : Nat} {p q r z : Bool} {vp vq vr vz v' : Value} {w w' : World} {n : Nat} {xs ys : List Value} (h : Ch T size base p q r z vp vq vr vz w n xs ys) (hq0 : q = true) (hr0 : r = true) (h1 : w'.ownsRow base T size v' (n + 1) (xs ++ ys)) : Ch T size base p q r true vp vq vr v' w' n xs ys := by
  subst hq0 hr0
  exact ⟨fun _ a => (by cases a), fun _ a => (by cases a), fun _ a => (by cases a), fun _ a => (by cases a), fun _ _ a => (by cases a), fun _ => h1, h.qp, fun _ => ⟨rfl, rfl⟩⟩

end Go.Proofs.YtclpndigmidjkaaGreat

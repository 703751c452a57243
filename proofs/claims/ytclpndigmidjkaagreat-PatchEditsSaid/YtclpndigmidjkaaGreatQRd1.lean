/- The walk of patch.reader.read. -/
import Derived.Test.YtclpndigmidjkaaGreatQRd0
import Derived.Deep.LoopGhost
import Derived.Deep.DeepCutAuto
import Derived.Deep.RegionHeld3
import Derived.Deep.AppendLies
set_option linter.unusedSimpArgs false
set_option linter.unusedVariables false
namespace Go.Proofs.YtclpndigmidjkaaGreat
open Go.RowKit

/-- A reader in memory, and the pieces that it appends to. -/
structure RdM (B base lb : Nat) (w : World) (rb : Nat) (lv : Value) (xs : List Pm) (u at_ : Int) (tv : Value) (ys : List Pm) : Prop where
  rd : w.heap[rb]? = some (.cells #[lv, .int .i64 u, .int .i64 at_] 190 (0, 0))
  ls : ∃ a cap, lv = .slice a xs.length cap ∧ RG Pm.vals 3 B w a xs ∧ xs.length ≤ cap ∧ cap ≤ 9223372036854775807 ∧ (∀ ad, a = some ad → ad.block ≠ rb ∧ tv.ownBlock ≠ some ad.block ∧ ad.block < w.heap.size ∧ ad.block = lb)
  own : w.ownsRow base 142 3 tv ys.length (ys.flatMap Pm.vals)
  low : base ≤ w.heap.size

/-- What may have changed. -/
def RdF (rb : Nat) (tv : Value) (w w' : World) : Prop := Fr (fun k => k = rb ∨ tv.ownBlock = some k) w w'

def muR (xs : List Pm) (at_ tgt : Int) : Nat := 2 * xs.length + (if at_ < tgt then 1 else 0)

/-- The loop's relation. -/
structure RdL (MT : Nat) (L : List Ent) (G1 G2 : List (Int × Int)) (C : Int) (K : Nat) (tgt : Int) (B base lb : Nat) (w wr : World) (rb : Nat) (tv v : Value) (ys xs : List Pm) (lv : Value) (u at_ : Int) : Prop where
  m : RdM B base lb wr rb lv xs u at_ v ys
  s : RdS MT L G1 G2 C K tgt ys xs u at_
  f : RdF rb tv w wr
  v : v.ownBlock = tv.ownBlock ∨ ∃ k, v.ownBlock = some k ∧ w.heap.size ≤ k

theorem info_piece : (Tryz.prog.info? 142).map (fun i => (i.zero, i.size, i.bytes)) = some (some (.agg #[.int .i64 0, .int .i64 0, .int .i64 0]), 3, 24) := by kernel_rfl
theorem rt_piece : RT 143 142 3 24 := by
  obtain ⟨i, h1, h2, h3, h4⟩ := info_parts info_piece
  exact ⟨by omega, i, _, Tryz.underlying143, h1, h2, h3, h4, rfl⟩

theorem step_pushH {α : Type} {vals : α → List Value} {ST T : TypeId} {size bytes : Nat} (hT : RT ST T size bytes) {w : World} {ops : Array Oper} {o : Oper} {a : Act} {K : Act → World → Prop} {Q : Exit → Act → World → Prop} {E : Prop} (hgd : o.guard = none) (s x : Operand)
    (ho : o.op = .call { callee := .builtin .append, args := #[s, x], argTypes := #[ST, ST] })
    (base : Nat) (v : Value) (xs : List α) (hs : a.eval s = v) (hown : w.ownsRow base T size v xs.length (xs.flatMap vals)) (hb : base ≤ w.heap.size) (T' : TypeId) (y : α) (cs : Array Value) (hcs : cs.toList = vals y) (hy : (vals y).length = size) (h1 : ∀ u ∈ vals y, u.oneCell' = true)
    (c H : Nat) (hH : w.heap.size = H) (hx : a.eval x = .slice (some ⟨H, 0, none⟩) 1 c) (hbytes : bytes ≤ 100) (hlen : xs.length ≤ 1000000)
    (h : ∀ g cap w', w'.ownsRow base T size (.slice (some ⟨g, 0, none⟩) (xs.length + 1) cap) (xs ++ [y]).length ((xs ++ [y]).flatMap vals) → (w.alloc (.cells cs T' (0, 0))).drew.grownBy w' v.ownBlock → (v.ownBlock = some g ∨ g = H + 1) → K (a.put o.dst (.slice (some ⟨g, 0, none⟩) (xs.length + 1) cap)) w') :
    if Region.wanted o (yielded ops a.tmps) = true then Oper.wp Tryz.prog o a (w.alloc (.cells cs T' (0, 0))).drew K Q else E := by
  subst hH
  obtain ⟨hp, i, z, hu, hi, hz, hs', hby, hzs⟩ := hT
  have hby2 : (xs.length + 1) * bytes ≤ 140737488355328 := by
    have : (xs.length + 1) * bytes ≤ 1000001 * 100 := Nat.mul_le_mul (by omega) hbytes
    omega
  refine step_append_lies _ hgd s x ST ho base T i z size bytes hu hi hz hs' hby hzs hp v xs.length _ hs ((hown.alloc _).drew) ⟨w.heap.size, 0, none⟩ 1 c (vals y) hx (by rw [hy]; omega) ?_ h1 (by omega) (by unfold maxLen; omega) hby2 (by simp; omega) (w.heap.size + 1) (by simp) ?_
  · intro j u hj
    have h := World.news_of_block (cs := cs) (t := T') (fr := (0, 0)) (heap_alloc_new w (.cells cs T' (0, 0)))
    rw [← hcs] at hj
    exact h j u hj
  · intro g cap w' q1 q2 q3 _
    exact h g cap w' (by simpa using q1) q2 q3

theorem RG.keptF {α : Type} {vals : α → List Value} {size B : Nat} {S : Nat → Prop} {w w' : World} {a : Option Addr} {xs : List α} (h : RG vals size B w a xs) (hf : Fr S w w') (hn : ∀ ad, a = some ad → ¬ S ad.block) : RG vals size B w' a xs := by
  intro i hi
  obtain ⟨b, off, h1, h2, h3, h4⟩ := h i hi
  have hb := hn _ h1
  refine ⟨b, off, h1, by have := hf.size; omega, ?_, fun j u hj => (hf.cell ⟨b, off + i * size + j, none⟩ h2 hb).trans (h4 j u hj)⟩
  rcases h3 with h3 | ⟨cs, t, fr, g1, g2⟩
  · exact .inl h3
  · exact .inr ⟨cs, t, fr, hf.kept g1 hb, g2⟩

theorem RdM.ne {B base lb : Nat} {w : World} {rb : Nat} {lv : Value} {xs : List Pm} {u at_ : Int} {tv : Value} {ys : List Pm} (h : RdM B base lb w rb lv xs u at_ tv ys) : tv.ownBlock ≠ some rb := by
  intro e
  obtain ⟨cur, hc⟩ := owns_block h.own e
  exact ne_of_types h.rd hc (by decide) rfl

theorem RdM.kept0 {B base lb : Nat} {w w' : World} {rb : Nat} {lv : Value} {xs : List Pm} {u at_ : Int} {tv : Value} {ys : List Pm} (h : RdM B base lb w rb lv xs u at_ tv ys) (hf : Fr0 w w') : RdM B base lb w' rb lv xs u at_ tv ys := by
  obtain ⟨a, cap, h1, h2, h3, h4, h5⟩ := h.ls
  have hs := Fr.size hf
  exact ⟨hf.kept h.rd, ⟨a, cap, h1, h2.kept0 hf, h3, h4, fun ad had => ⟨(h5 ad had).1, (h5 ad had).2.1, by have := (h5 ad had).2.2.1; omega, (h5 ad had).2.2.2⟩⟩, hf.owns h.own, by have := h.low; omega⟩

/-- A piece more. -/
theorem RdM.push {B base lb : Nat} {w w' : World} {rb : Nat} {lv : Value} {xs : List Pm} {u at_ : Int} {tv : Value} {ys ys' : List Pm} {o : Obj} {g cap n : Nat} (h : RdM B base lb w rb lv xs u at_ tv ys) (ho : w'.ownsRow base 142 3 (.slice (some ⟨g, 0, none⟩) n cap) ys'.length (ys'.flatMap Pm.vals)) (hg : (w.alloc o).drew.grownBy w' tv.ownBlock) (hat : tv.ownBlock = some g ∨ g = w.heap.size + 1) :
    RdM B base lb w' rb lv xs u at_ (.slice (some ⟨g, 0, none⟩) n cap) ys' ∧ Fr (fun k => tv.ownBlock = some k) w w' := by
  have hf : Fr (fun k => tv.ownBlock = some k) w w' := Fr.grown (((Fr.refl _ w).alloc o).drew) hg (fun k hk _ => hk)
  obtain ⟨a, c, h1, h2, h3, h4, h5⟩ := h.ls
  have hs := hf.size
  refine ⟨⟨hf.kept h.rd h.ne, ⟨a, c, h1, h2.keptF hf (fun ad had => (h5 ad had).2.1), h3, h4, fun ad had => ⟨(h5 ad had).1, ?_, by have := (h5 ad had).2.2.1; omega, (h5 ad had).2.2.2⟩⟩, ho, by have := h.low; omega⟩, hf⟩
  intro e
  simp only [Value.ownBlock, Option.some.injEq] at e
  rcases hat with e' | e'
  · exact (h5 ad had).2.1 (by rw [e', e])
  · have := (h5 ad had).2.2.1; omega

/-- The reader's fields are written. -/
theorem RdM.write {B base lb : Nat} {w w' : World} {rb : Nat} {lv lv' : Value} {xs xs' : List Pm} {u at_ u' at' : Int} {tv : Value} {ys : List Pm} (h : RdM B base lb w rb lv xs u at_ tv ys) (hf : Fr (fun k => k = rb) w w') (hrd : w'.heap[rb]? = some (.cells #[lv', .int .i64 u', .int .i64 at'] 190 (0, 0)))
    (hl : (lv' = lv ∧ xs' = xs) ∨ ∃ x b off cap a', lv = .slice (some ⟨b, off, none⟩) xs.length cap ∧ xs = x :: xs' ∧ lv' = .slice (some a') xs'.length (cap - 1) ∧ (xs' ≠ [] → a' = ⟨b, off + 3, none⟩) ∧ a'.block = b) : RdM B base lb w' rb lv' xs' u' at' tv ys := by
  obtain ⟨a, c, h1, h2, h3, h4, h5⟩ := h.ls
  have hs := hf.size
  have hne := h.ne
  have hown := hf.owns h.own (fun k hk e => by subst e; exact hne hk)
  have hlow := h.low
  refine ⟨hrd, ?_, hown, by omega⟩
  rcases hl with ⟨rfl, rfl⟩ | ⟨x, b, off, cap, a', e1, e2, e3, e4, e5⟩
  · exact ⟨a, c, h1, h2.keptF hf (fun ad had => (h5 ad had).1), h3, h4, fun ad had => ⟨(h5 ad had).1, (h5 ad had).2.1, by have := (h5 ad had).2.2.1; omega, (h5 ad had).2.2.2⟩⟩
  · rw [e1] at h1
    simp only [Value.slice.injEq] at h1
    obtain ⟨rfl, _, rfl⟩ := h1
    have hsep := h5 _ rfl
    dsimp only at hsep
    have hk := h2.keptF hf (fun ad had => (h5 ad had).1)
    refine ⟨some a', cap - 1, e3, ?_, by rw [e2] at h3; simp only [List.length_cons] at h3; omega, by omega, fun ad had => ?_⟩
    · by_cases hx : xs' = []
      · rw [hx]; exact RG.nil _ _ _ _ _
      · rw [e4 hx]
        have := hk.tail
        rw [e2] at this
        exact this
    · simp only [Option.some.injEq] at had
      subst had
      rw [e5]
      exact ⟨hsep.1, hsep.2.1, by omega, hsep.2.2.2⟩

theorem rd_keep {W : World} {rb : Nat} {lv u a : Value} {T : TypeId} (h : W.heap[rb]? = some (.cells #[lv, u, a] T (0, 0))) (X Y : Value) (n : Nat) : (((W.setCell ⟨rb, 2, none⟩ X).setCell ⟨rb, 1, none⟩ Y).drewN n).heap[rb]? = some (.cells #[lv, Y, X] T (0, 0)) ∧ Fr (fun k => k = rb) W (((W.setCell ⟨rb, 2, none⟩ X).setCell ⟨rb, 1, none⟩ Y).drewN n) :=
  ⟨setCell_block (setCell_block h 2 X) 1 Y, (((Fr.refl (fun k => k = rb) W).setCell ⟨rb, 2, none⟩ X (fun _ => rfl)).setCell ⟨rb, 1, none⟩ Y (fun _ => rfl)).drewN n⟩
theorem rd_pop {W : World} {rb : Nat} {lv u a : Value} {T : TypeId} (h : W.heap[rb]? = some (.cells #[lv, u, a] T (0, 0))) (X Y V Z : Value) (n : Nat) : (((((W.setCell ⟨rb, 2, none⟩ X).setCell ⟨rb, 1, none⟩ Y).drewN n).setCell ⟨rb, 0, none⟩ V).setCell ⟨rb, 1, none⟩ Z).heap[rb]? = some (.cells #[V, Z, X] T (0, 0)) ∧ Fr (fun k => k = rb) W ((((W.setCell ⟨rb, 2, none⟩ X).setCell ⟨rb, 1, none⟩ Y).drewN n).setCell ⟨rb, 0, none⟩ V |>.setCell ⟨rb, 1, none⟩ Z) :=
  ⟨setCell_block (setCell_block (rd_keep h X Y n).1 0 V) 1 Z, (((rd_keep h X Y n).2).setCell ⟨rb, 0, none⟩ V (fun _ => rfl)).setCell ⟨rb, 1, none⟩ Z (fun _ => rfl)⟩

theorem RdF.wrote {rb : Nat} {tv : Value} {w w1 w2 : World} (h : RdF rb tv w w1) (hf : Fr (fun k => k = rb) w1 w2) : RdF rb tv w w2 := Fr.trans h hf (fun _ e _ => .inl e)
theorem RdF.same {rb : Nat} {tv : Value} {w w1 w2 : World} (h : RdF rb tv w w1) (hf : Fr0 w1 w2) : RdF rb tv w w2 := Fr.trans h hf (fun _ e _ => e.elim)
theorem RdF.own {rb : Nat} {tv v : Value} {w w1 w2 : World} (h : RdF rb tv w w1) (hf : Fr (fun k => v.ownBlock = some k) w1 w2) (hv : v.ownBlock = tv.ownBlock ∨ ∃ k, v.ownBlock = some k ∧ w.heap.size ≤ k) : RdF rb tv w w2 :=
  Fr.trans h hf (fun i e hi => by
    rcases hv with hv | ⟨k, hk, hge⟩
    · exact .inr (by rw [← hv]; exact e)
    · rw [e] at hk
      simp only [Option.some.injEq] at hk
      omega)

/-- What read leaves. -/
def RdPost (MT : Nat) (L : List Ent) (G1 G2 : List (Int × Int)) (C : Int) (K : Nat) (tgt : Int) (B base lb : Nat) (w : World) (rb : Nat) (tv : Value) (e : Ending) (w' : World) : Prop :=
  ∃ v ys' xs' lv' u' at', e = .returned v ∧ RdL MT L G1 G2 C K tgt B base lb w w' rb tv v ys' xs' lv' u' at' ∧ (xs' = [] ∨ tgt ≤ at')

set_option maxRecDepth 100000 in
set_option maxHeartbeats 2000000 in
theorem pat_read {MT : Nat} {L : List Ent} {G1 G2 : List (Int × Int)} {C : Int} {K : Nat} {tgt : Int} {B base lb : Nat} {w : World} {rb : Nat} {tv : Value} {ys xs : List Pm} {lv : Value} {u at_ : Int} (h : RdL MT L G1 G2 C K tgt B base lb w w rb tv tv ys xs lv u at_) (hK : K ≤ 900000) (hC : C ≤ 2305843009213693952) (ht0 : 0 ≤ tgt) (ht1 : tgt ≤ 9223372036854775807) :
    Calls Tryz.prog 100 #[.pointer (some ⟨rb, 0, none⟩), tv, .int .i64 tgt] w (RdPost MT L G1 G2 C K tgt B base lb w rb tv) := by
  have H0 := Lib.hid h
  clear h
  go_enter Tryz.func100, Tryz.ntmps100
  go_wp2_with fail
  go_loopg [1] (2 * xs.length + 1) (fun gk v wr => ∃ ys xs lv u at_, muR xs at_ tgt ≤ gk ∧ RdL MT L G1 G2 C K tgt B base lb w wr rb tv v ys xs lv u at_)
  case atStart => exact ⟨ys, xs, lv, u, at_, by unfold muR; split <;> omega, H0.out⟩
  case round =>
    clear H0
    obtain ⟨ys, xs, lv, u, at_, hmu, hr⟩ := hrel
    obtain ⟨a, cap, rfl, hrg, hcap1, hcap2, hsep⟩ := hr.m.ls
    obtain ⟨r0, r1, r2, hfz, lrb⟩ := cells3 hr.m.rd
    by_cases hdone : xs = [] ∨ tgt ≤ at_
    · have HX : Hid (RdPost MT L G1 G2 C K tgt B base lb w rb tv (.returned u1) wr) := ⟨u1, ys, xs, _, u, at_, rfl, hr, hdone⟩
      clear hr hrg hsep
      cases xs with
      | nil =>
        clear hdone
        go_wp2_with fail
        go_ret
        exact HX.out
      | cons x r =>
        have hge : ¬ at_ < tgt := by
          rcases hdone with h | h
          · cases h
          · omega
        clear hdone
        go_wp2_with fail
        go_ret
        exact HX.out
    · have hx : ∃ x r, xs = x :: r := by
        cases xs with
        | nil => exact absurd (.inl rfl) hdone
        | cons x r => exact ⟨x, r, rfl⟩
      obtain ⟨x, r, rfl⟩ := hx
      have hlt : at_ < tgt := by
        rcases Int.lt_or_le at_ tgt with h | h
        · exact h
        · exact absurd (.inr h) hdone
      clear hdone
      obtain ⟨b, off, rfl, lbb, _, hc⟩ := hrg 0 (by simp)
      have c0 := hc 0 _ rfl
      have c1 := hc 1 _ rfl
      have c2 := hc 2 _ rfl
      simp only [List.getElem_cons_zero, Nat.zero_mul, Nat.add_zero] at c0 c1 c2
      obtain ⟨sep1, sep2, sep3, sep4⟩ := hsep _ rfl
      clear sep4
      dsimp only at sep1 sep2 sep3
      have hu := hr.s.u0
      have ha := hr.s.a0
      have hxo := hr.s.ox x (by simp)
      have hxn := hxo.n0
      have hxf := hxo.f0
      have hxu := hxo.up
      have hux := hr.s.ux x r rfl
      have hul : u ≤ x.n := by omega
      have hat : at_ ≤ C := by have := hr.s.c; omega
      have HR := Lib.hid hr
      clear hc hr hrg hsep hxo
      go_wp2_with fail
      have a1 := IntWalk.i64_in (x.n - u) (by omega)
      have a2 := IntWalk.i64_in (tgt - at_) (by omega)
      go_quiet (fail)
      clear a1 a2
      obtain ⟨m, hm⟩ : ∃ m, min (x.n - u) (tgt - at_) = m := ⟨_, rfl⟩
      rw [hm]
      have hm0 : 0 ≤ m := by omega
      have hml : u + m ≤ x.n := by omega
      have hmt : at_ + m ≤ tgt := by omega
      have hmc : m ≤ 1152921504606846976 := by omega
      have HM := Lib.hid hm
      clear hm
      have hW := (Fr0.refl wr).alloc (.cells #[.int .i64 x.text, .int .i64 x.from_, .int .i64 x.n] 142 (0, 0))
      have hWF := alloc_at wr (.cells #[.int .i64 x.text, .int .i64 x.from_, .int .i64 x.n] 142 (0, 0)) _ rfl
      have hW2 : Fr0 wr ((wr.alloc (.cells #[.int .i64 x.text, .int .i64 x.from_, .int .i64 x.n] 142 (0, 0))).drewN nq) := hW.drewN nq
      have hWF2 : ((wr.alloc (.cells #[.int .i64 x.text, .int .i64 x.from_, .int .i64 x.n] 142 (0, 0))).drewN nq).heap[wr.heap.size]? = some (.cells #[.int .i64 x.text, .int .i64 x.from_, .int .i64 x.n] 142 (0, 0)) := hWF
      clear hW hWF
      generalize (wr.alloc (.cells #[.int .i64 x.text, .int .i64 x.from_, .int .i64 x.n] 142 (0, 0))).drewN nq = W at *
      obtain ⟨F, hF⟩ : ∃ F, F = wr.heap.size := ⟨_, rfl⟩
      rw [← hF] at hWF2 ⊢
      have hMW := HR.out.m.kept0 hW2
      clear r0 r1 r2 hfz c0 c1 c2
      obtain ⟨r0, r1, r2, hfz, lrW⟩ := cells3 hMW.rd
      obtain ⟨e0, e1, e2, _, lF⟩ := cells3 hWF2
      have hFr : F ≠ rb := by omega
      have hFv : some F ≠ u1.ownBlock := fun h => by have := (HR.out.m.own.lt F h.symm).2; omega
      have hRv : some rb ≠ u1.ownBlock := fun h => HR.out.m.ne h.symm
      have HMW := Lib.hid hMW
      have HW2 := Lib.hid hW2
      clear hMW hW2 lrb lbb
      have HF := Lib.hid hF
      have hrl : (r.length : Int) + 1 ≤ 1000000 := by have := HR.out.s.k; simp only [List.length_cons] at this; omega
      have hyl : ys.length ≤ 1000000 := by have := HR.out.s.k; simp only [List.length_cons] at this; omega
      have HMU := Lib.hid hmu
      simp only [List.length_cons] at hcap1
      clear hF hmu
      by_cases hmz : m = 0
      · have hxz : x.n = 0 ∧ u = 0 := by have := HM.out; omega
        have HS : Hid (RdS MT L G1 G2 C K tgt ys r 0 (at_ + m)) := by
          have h1 := (HR.out.s.next hlt HM.out.symm).2 hmz
          rw [hmz, Int.add_zero]
          exact h1
        have q1 : decide (0 < m) = false := decide_eq_false (by omega)
        have q2 : (u + m == x.n) = true := by rw [beq_iff_eq]; omega
        have HMS : Hid (muR r (at_ + m) tgt < muR (x :: r) at_ tgt) := by show _ < _; unfold muR; simp only [List.length_cons]; rw [if_pos hlt]; split <;> omega
        clear hmz hxz
        by_cases hcp : cap = 1
        · have hrz : r.length = 0 := by omega
          obtain rfl : r = [] := List.eq_nil_of_length_eq_zero hrz
          subst hcp
          clear hrz
          go_wp2_with fail
          go_quiet (fail)
          go_wp2_with fail
          obtain ⟨k1, k2⟩ := rd_pop HMW.out.rd (.int .i64 (at_ + m)) (.int .i64 (u + m)) (.slice (some ⟨b, off, none⟩) 0 0) (.int .i64 0) nq
          have hX := HMW.out.write (xs' := []) (u' := 0) (at' := at_ + m) k2 k1 (.inr ⟨x, b, off, 1, ⟨b, off, none⟩, rfl, rfl, rfl, fun h => absurd rfl h, rfl⟩)
          go_roundg (muR [] (at_ + m) tgt)
          case measure => have h1 := HMS.out; have h2 := HMU.out; omega
          case rel => exact ⟨ys, [], _, 0, at_ + m, Nat.le_refl _, ⟨hX, HS.out, (HR.out.f.same HW2.out).wrote k2, HR.out.v⟩⟩
        · have hc1 : 1 ≤ cap := by omega
          go_wp2_with fail
          go_quiet (fail)
          go_wp2_with fail
          obtain ⟨k1, k2⟩ := rd_pop HMW.out.rd (.int .i64 (at_ + m)) (.int .i64 (u + m)) (.slice (some ⟨b, off + 3, none⟩) r.length (cap - 1)) (.int .i64 0) nq
          have hX := HMW.out.write (xs' := r) (u' := 0) (at' := at_ + m) k2 k1 (.inr ⟨x, b, off, cap, ⟨b, off + 3, none⟩, rfl, rfl, rfl, fun _ => rfl, rfl⟩)
          go_roundg (muR r (at_ + m) tgt)
          case measure => have h1 := HMS.out; have h2 := HMU.out; omega
          case rel => exact ⟨ys, r, _, 0, at_ + m, Nat.le_refl _, ⟨hX, HS.out, (HR.out.f.same HW2.out).wrote k2, HR.out.v⟩⟩
      · have hmp : 0 < m := by omega
        have HS := Lib.hid ((HR.out.s.next hlt HM.out.symm).1 hmp)
        have HMIN : Hid (u + m ≠ x.n → at_ + m = tgt) := by have := HM.out; intro hne; omega
        clear hmz
        have hoW := HMW.out.own
        have hbW := HMW.out.low
        have a1 := IntWalk.i64_in (x.from_ + u) (by omega)
        go_wp2_with fail
        go_region_held3 (fun w' => w'.cell? ⟨rb, 1, none⟩ = some (.int .i64 u) ∧ w'.cell? ⟨F, 0, none⟩ = some (.int .i64 x.text) ∧ w'.cell? ⟨F, 1, none⟩ = some (.int .i64 x.from_))
          (first
            | (go_keep; done)
            | (go_split_ands
               refine ⟨?_, ?_, ?_⟩
               · (rw [hg4.cell_far _ (by simp; omega) hRv]; assumption)
               · (rw [hg4.cell_far _ (by simp; omega) hFv]; assumption)
               · (rw [hg4.cell_far _ (by simp; omega) hFv]; assumption)))
          ((refine step_pushH (vals := Pm.vals) rt_piece (by rfl) _ _ (by rfl) base _ ys (by rfl) hoW hbW 142 ⟨x.text, x.from_ + u, m⟩ #[.int .i64 x.text, .int .i64 (x.from_ + u), .int .i64 m] (by rfl) (by rfl) (by simp [Pm.vals, Value.oneCell']) 1 W.heap.size (by rfl) (by rfl) (by omega) hyl ?_; intro g gcap w4 hO4 hg4 hat4))
        obtain ⟨hM4, hF4⟩ := HMW.out.push (ys' := ys ++ [⟨x.text, x.from_ + u, m⟩]) hO4 hg4 hat4
        have hWF4 := hF4.kept hWF2 (fun e => hFv e.symm)
        have HM4 := Lib.hid hM4
        have HF4 := Lib.hid ((HR.out.f.same HW2.out).own hF4 HR.out.v)
        have HV4 : Hid ((Value.slice (some ⟨g, 0, none⟩) (ys.length + 1) gcap).ownBlock = tv.ownBlock ∨ ∃ k, (Value.slice (some ⟨g, 0, none⟩) (ys.length + 1) gcap).ownBlock = some k ∧ w.heap.size ≤ k) := by
          have h1 := HR.out.f.size
          have h2 := Fr.size HW2.out
          rcases hat4 with e | e
          · rcases HR.out.v with hv | ⟨k, hk, hge⟩
            · left
              rw [← hv, e]; rfl
            · right
              rw [hk] at e
              simp only [Option.some.injEq] at e
              exact ⟨g, rfl, by omega⟩
          · right
            exact ⟨g, rfl, by omega⟩
        clear a1 r0 r1 r2 e0 e1 e2 hfz hO4 hg4 hat4 hF4 hoW hbW hWF2
        obtain ⟨r0, r1, r2, hfz, lr4⟩ := cells3 hM4.rd
        obtain ⟨e0, e1, e2, _, lF4⟩ := cells3 hWF4
        clear hM4 hWF4
        by_cases hpop : u + m = x.n
        · have q2 : (u + m == x.n) = true := by rw [beq_iff_eq]; omega
          have HS2 : Hid (RdS MT L G1 G2 C K tgt (ys ++ [⟨x.text, x.from_ + u, m⟩]) r 0 (at_ + m)) := by have := HS.out; rw [if_pos hpop, if_pos hpop] at this; exact this
          have HMS : Hid (muR r (at_ + m) tgt < muR (x :: r) at_ tgt) := by show _ < _; unfold muR; simp only [List.length_cons]; rw [if_pos hlt]; split <;> omega
          clear hpop HS HMIN
          by_cases hcp : cap = 1
          · have hrz : r.length = 0 := by omega
            obtain rfl : r = [] := List.eq_nil_of_length_eq_zero hrz
            subst hcp
            clear hrz
            go_wp2_with fail
            go_quiet (fail)
            go_wp2_with fail
            obtain ⟨k1, k2⟩ := rd_pop HM4.out.rd (.int .i64 (at_ + m)) (.int .i64 (u + m)) (.slice (some ⟨b, off, none⟩) 0 0) (.int .i64 0) nq
            have hX := HM4.out.write (xs' := []) (u' := 0) (at' := at_ + m) k2 k1 (.inr ⟨x, b, off, 1, ⟨b, off, none⟩, rfl, rfl, rfl, fun h => absurd rfl h, rfl⟩)
            go_roundg (muR [] (at_ + m) tgt)
            case measure => have h1 := HMS.out; have h2 := HMU.out; omega
            case rel => exact ⟨_, [], _, 0, at_ + m, Nat.le_refl _, ⟨hX, HS2.out, HF4.out.wrote k2, HV4.out⟩⟩
          · have hc1 : 1 ≤ cap := by omega
            go_wp2_with fail
            go_quiet (fail)
            go_wp2_with fail
            obtain ⟨k1, k2⟩ := rd_pop HM4.out.rd (.int .i64 (at_ + m)) (.int .i64 (u + m)) (.slice (some ⟨b, off + 3, none⟩) r.length (cap - 1)) (.int .i64 0) nq
            have hX := HM4.out.write (xs' := r) (u' := 0) (at' := at_ + m) k2 k1 (.inr ⟨x, b, off, cap, ⟨b, off + 3, none⟩, rfl, rfl, rfl, fun _ => rfl, rfl⟩)
            go_roundg (muR r (at_ + m) tgt)
            case measure => have h1 := HMS.out; have h2 := HMU.out; omega
            case rel => exact ⟨_, r, _, 0, at_ + m, Nat.le_refl _, ⟨hX, HS2.out, HF4.out.wrote k2, HV4.out⟩⟩
        · have q2 : (u + m == x.n) = false := by rw [beq_eq_false_iff_ne]; exact hpop
          have HS2 : Hid (RdS MT L G1 G2 C K tgt (ys ++ [⟨x.text, x.from_ + u, m⟩]) (x :: r) (u + m) (at_ + m)) := by have := HS.out; rw [if_neg hpop, if_neg hpop] at this; exact this
          have HMS : Hid (muR (x :: r) (at_ + m) tgt < muR (x :: r) at_ tgt) := by have h3 := HMIN.out hpop; show _ < _; unfold muR; rw [if_pos hlt, if_neg (by omega)]; omega
          clear hpop HS HMIN
          go_wp2_with fail
          go_quiet (fail)
          go_wp2_with fail
          obtain ⟨k1, k2⟩ := rd_keep HM4.out.rd (.int .i64 (at_ + m)) (.int .i64 (u + m)) nq
          have hX := HM4.out.write (xs' := x :: r) (u' := u + m) (at' := at_ + m) k2 k1 (.inl ⟨rfl, rfl⟩)
          go_roundg (muR (x :: r) (at_ + m) tgt)
          case measure => have h1 := HMS.out; have h2 := HMU.out; omega
          case rel => exact ⟨_, x :: r, _, u + m, at_ + m, Nat.le_refl _, ⟨hX, HS2.out, HF4.out.wrote k2, HV4.out⟩⟩

end Go.Proofs.YtclpndigmidjkaaGreat

/- An append of cells that lie in the slice itself, and what it leaves of them. -/
import Derived.Test.YtgldjpldldknoaaGreatDoorRAc3
import Derived.Maps.AppendAt
set_option linter.unusedSimpArgs false
set_option linter.unusedVariables false
namespace Go.Proofs.YtgldjpldldknoaaGreatDoor
open Go.RowKit
theorem run_append_keep {ST T : TypeId} {size bytes : Nat} (hT : RT ST T size bytes) (w : World) (ty : TypeId) (B g n cap : Nat) (xs : List Value) (hown : w.ownsRow B T size (.slice (some ⟨g, 0, none⟩) n cap) n xs) (ad : Addr) (m c : Nat) (news : List Value)
    (hl : news.length = m * size) (hnews : ∀ j u, news[j]? = some u → w.cell? (ad.add j) = some u) (h1 : ∀ u ∈ news, u.oneCell' = true) (h63 : n + m ≤ maxLen) (hb : (n + m) * bytes ≤ 140737488355328) (hB : B ≤ w.heap.size) :
    ∃ v' w', (Builtin.append_ #[ST, ST] ty #[.slice (some ⟨g, 0, none⟩) n cap, .slice (some ad) m c]).run Tryz.prog w = .ok v' w' ∧ w'.ownsRow B T size v' (n + m) (xs ++ news) ∧ w.grownBy w' (some g) ∧ (v'.ownBlock = some g ∨ (v'.ownBlock = some w.heap.size ∧ w.grownBy w' none)) := by
 obtain ⟨hp, i, z, hu, hi, hz, hs, hby, hzs⟩ := hT
 subst hs hby
 have hsmall : n + m ≤ 9223372036854775807 := by simp only [maxLen] at h63; omega
 have hlen : (xs ++ news).length = (n + m) * i.size := by rw [List.length_append, hown.1, hl, Nat.add_mul]
 have hn := hown.2
 rcases hn with ⟨e1, e2⟩ | ⟨g', cap', cur, e1, hbg, hg, hnc, hcm, hcs, htake⟩
 · cases e1
 · simp only [Value.slice.injEq, Option.some.injEq, Addr.mk.injEq, and_true, true_and] at e1
   obtain ⟨rfl, rfl⟩ := e1
   by_cases hroom : n + m ≤ cap
   · have hfit : n * i.size + news.length ≤ cur.size := by rw [hl, hcs, ← Nat.add_mul]; exact Nat.mul_le_mul_right _ hroom
     have hr := run_append_room (P := Tryz.prog) w ST ty T i hu hi g n cap cur hg ad m c news hl hnews h1 hroom hfit
     refine ⟨_, _, hr, ⟨hlen, .inr ⟨g, cap, _, rfl, hbg, setRow_heap w g cur _ T _ hg, hroom, hcm, ?_, ?_⟩⟩, ⟨rfl, rfl, rfl, by simp, fun k _ hk => setRow_other w g k _ (fun e => hk (by simp [e]))⟩, Or.inl rfl⟩
     · simp only [List.size_toArray, List.length_append, List.length_take, List.length_drop, Array.length_toList]
       omega
     · rw [htake, ← hlen]
       exact List.take_left
   · have holds : ∀ j u, xs[j]? = some u → w.cell? ((⟨g, 0, none⟩ : Addr).add j) = some u := hown.cells (g := g) rfl
     have hr := run_append_grow (P := Tryz.prog) w ST ty T i z hu hi hz ⟨g, 0, none⟩ n cap xs hown.1 holds ad m c news hl hnews (by omega) (by omega) (growslice_fits (by omega) hb)
     have hge := grownCap_ge w (n + m) cap T
     have hcm2 : grownCap w (n + m) cap T ≤ maxLen := grownCap_le_maxLen w (n + m) cap T h63
     have grown : ∀ row : Option Nat, w.grownBy (w.drew.alloc (.cells (xs.toArray ++ news.toArray ++ Builtin.zeroCells z.cells (grownCap w (n + m) cap T - (n + m))) T)) row :=
      fun row => ⟨rfl, rfl, rfl, by simp, fun k hk _ => heap_alloc_old w.drew _ hk⟩
     refine ⟨_, _, hr, ⟨hlen, .inr ⟨w.heap.size, _, _, rfl, hB, heap_alloc_new w.drew _, hge, hcm2, ?_, ?_⟩⟩, grown _, Or.inr ⟨rfl, grown none⟩⟩
     · simp only [Array.size_append, List.size_toArray, size_zeroCells, hzs, hown.1, hl, ← Nat.add_mul]
       generalize grownCap w (n + m) cap T = G at hge ⊢
       rw [Nat.add_sub_of_le hge]
     · simp only [Array.toList_append, List.append_assoc]
       rw [← List.append_assoc, ← hlen]
       exact List.take_left
theorem wpList_append_keep {ST T : TypeId} {size bytes : Nat} (hT : RT ST T size bytes) {w : World} {ops : Array Oper} {rest : List Oper} {o : Oper} {a : Act} {Q : Exit → Act → World → Prop} (hgd : o.guard = none) (s x : Operand)
    (ho : o.op = .call { callee := .builtin .append, args := #[s, x], argTypes := #[ST, ST] })
    (B g n cap : Nat) (xs : List Value) (hs : a.eval s = .slice (some ⟨g, 0, none⟩) n cap) (hown : w.ownsRow B T size (.slice (some ⟨g, 0, none⟩) n cap) n xs) (ad : Addr) (m c : Nat) (news : List Value) (hx : a.eval x = .slice (some ad) m c)
    (hl : news.length = m * size) (hnews : ∀ j u, news[j]? = some u → w.cell? (ad.add j) = some u) (h1 : ∀ u ∈ news, u.oneCell' = true) (h63 : n + m ≤ maxLen) (hb : (n + m) * bytes ≤ 140737488355328) (hB : B ≤ w.heap.size)
    (h : ∀ v' w', w'.ownsRow B T size v' (n + m) (xs ++ news) → w.grownBy w' (some g) → (v'.ownBlock = some g ∨ (v'.ownBlock = some w.heap.size ∧ w.grownBy w' none)) → wpList Tryz.prog ops Q rest (a.put o.dst v') w') : wpList Tryz.prog ops Q (o :: rest) a w := by
 obtain ⟨v', w', hr, h2, h3, h4⟩ := run_append_keep hT w o.type B g n cap xs hown ad m c news hl hnews h1 h63 hb hB
 refine wpList_plain hgd fun K hK => ?_
 unfold Oper.wp execOp
 simp only [ho, resolve, invoke, builtin, Sem.run_bind, Sem.run_pure, Result.andThen_ok, List.map_toArray, List.map_cons, List.map_nil, hs, hx, hr]
 exact hK _ _ (h v' w' h2 h3 h4)
structure Sc (W : World) (g0 b : Nat) (t : List Int) : Prop where
 cell : ∀ j (h : j < t.length), W.cell? ⟨g0, b + j, none⟩ = some (.int .u8 t[j])
 blk : ∃ cur, W.heap[g0]? = some (Obj.cells cur 5 (0, 0))
theorem Sc.kept {S : Nat → Prop} {W W' : World} {g0 b : Nat} {t : List Int} (h : Sc W g0 b t) (hf : Fr S W W') (hS : ¬ S g0) : Sc W' g0 b t := by
 obtain ⟨cur, hc⟩ := h.blk
 have hc2 := hf.kept hc hS
 refine ⟨fun j hj => ?_, cur, hc2⟩
 have := h.cell j hj
 rw [cell_of_block hc] at this
 rw [cell_of_block hc2]; exact this
theorem byz_at (out : List Int) (j : Nat) (h : j < out.length) : (out.flatMap byz)[j]? = some (.int .u8 out[j]) := by
 have := flat_get byz 1 out (fun _ _ => rfl) j 0 (by decide) _ (List.getElem?_eq_getElem h)
 simpa [byz] using this
theorem byz_len (out : List Int) : (out.flatMap byz).length = out.length := by
 have := flat_len byz 1 out (fun _ _ => rfl); simpa using this
theorem byz_one (t : List Int) : ∀ u ∈ t.flatMap byz, u.oneCell' = true := fun u hu => by
 obtain ⟨z, _, hz⟩ := List.mem_flatMap.1 hu
 rw [List.mem_singleton.1 hz]; rfl
theorem owns_sc {W : World} {base : Nat} {g n cap : Nat} {out : List Int} (h : W.ownsRow base 5 1 (.slice (some ⟨g, 0, none⟩) n cap) n (out.flatMap byz)) {b : Nat} {t : List Int} (hb : ∀ j (hj : j < t.length), out[b + j]? = some t[j]) : Sc W g b t := by
 obtain ⟨cur, hc⟩ := owns_block h rfl
 refine ⟨fun j hj => ?_, cur, hc⟩
 obtain ⟨hlt, e⟩ := List.getElem?_eq_some_iff.1 (hb j hj)
 have h2 := h.cells (g := g) rfl (b + j) (.int .u8 t[j]) (by rw [byz_at out (b + j) hlt, e])
 have hadd : (⟨g, 0, none⟩ : Addr).add (b + j) = ⟨g, b + j, none⟩ := by unfold Addr.add; split <;> simp_all
 rwa [hadd] at h2
theorem Sc.src {W : World} {g0 b : Nat} {t : List Int} (h : Sc W g0 b t) : ∀ j u, (t.flatMap byz)[j]? = some u → W.cell? ((⟨g0, b, none⟩ : Addr).add j) = some u := by
 intro j u hj
 have hlt : j < t.length := by have := (List.getElem?_eq_some_iff.1 hj).1; rwa [byz_len] at this
 rw [byz_at t j hlt] at hj
 obtain rfl := Option.some.inj hj
 have hadd : (⟨g0, b, none⟩ : Addr).add j = ⟨g0, b + j, none⟩ := by unfold Addr.add; split <;> simp_all
 rw [hadd]; exact h.cell j hlt
theorem reps_snoc (t : List Int) (j : Nat) : reps t (j + 1) = reps t j ++ t := by rw [reps_add, reps_one]
theorem reps_get (t : List Int) (out : List Int) (j i : Nat) (h : i < t.length) : (out ++ reps t (j + 1))[out.length + i]? = some t[i] := by
 rw [List.getElem?_append_right (by omega), show out.length + i - out.length = i by omega, reps_succ, List.getElem?_append_left h, List.getElem?_eq_getElem h]
end Go.Proofs.YtgldjpldldknoaaGreatDoor

/- The walk of ref36.Apply. -/
import Derived.Test.YtclpndigmidjkaaGreatQl
import Derived.Deep.RegionLaw
import Derived.Test.YtclpndigmidjkaaGreatQPln
import Derived.Test.YtclpndigmidjkaaGreatQj
set_option linter.unusedSimpArgs false
set_option linter.unusedVariables false
namespace Go.Proofs.YtclpndigmidjkaaGreat
open Go.RowKit

/-- 'wpList_append_rt' as one step of a region that draws. -/
theorem step_append_rt {ST T : TypeId} {size bytes : Nat} (hT : RT ST T size bytes) {w : World} {ops : Array Oper} {o : Oper} {a : Act} {K : Act → World → Prop} {Q : Exit → Act → World → Prop} {E : Prop} (hgd : o.guard = none) (s x : Operand)
    (ho : o.op = .call { callee := .builtin .append, args := #[s, x], argTypes := #[ST, ST] })
    (B : Nat) (v : Value) (n : Nat) (xs : List Value) (hs : a.eval s = v) (hown : w.ownsRow B T size v n xs) (src : Value) (m : Nat) (news : List Value) (hx : a.eval x = src) (hsrc : SrcAt w src m news)
    (hl : news.length = m * size) (h1 : ∀ u ∈ news, u.oneCell' = true) (h63 : n + m ≤ maxLen) (hb : (n + m) * bytes ≤ 140737488355328) (hB : B ≤ w.heap.size)
    (hK : ∀ v' w', w'.ownsRow B T size v' (n + m) (xs ++ news) → w.grownBy w' v.ownBlock → (v'.ownBlock = v.ownBlock ∨ v'.ownBlock = some w.heap.size) → K (a.put o.dst v') w') :
    if Region.wanted o (yielded ops a.tmps) = true then Oper.wp Tryz.prog o a w K Q else E := by
  have hw : Region.wanted o (yielded ops a.tmps) = true := by simp [Region.wanted, hgd]
  rw [if_pos hw]
  obtain ⟨v', w', hr, h2, h3, h4⟩ := run_append_rt hT w o.type B v n xs hown src m news hsrc hl h1 h63 hb hB
  unfold Oper.wp execOp
  simp only [ho, resolve, invoke, builtin, Sem.run_bind, Sem.run_pure, Result.andThen_ok, List.map_toArray, List.map_cons, List.map_nil, hs, hx, hr]
  exact hK _ _ h2 h3 h4

/-- Text that can be read: at an address, or nil. -/
structure TextA (w : World) (a : Option Addr) (cap : Nat) (t : List Int) : Prop where
  le : t.length ≤ cap
  nil : a = none → cap = 0
  ex : ∀ ad, a = some ad → ∃ b off, ad = ⟨b, off, none⟩ ∧ b < w.heap.size ∧ ∀ i (h : i < t.length), w.cell? ⟨b, off + i, none⟩ = some (.int .u8 t[i])

theorem TextA.at_ {w : World} {a : Option Addr} {cap : Nat} {t : List Int} (h : TextA w a cap t) (ad : Addr) (e : a = some ad) (i : Nat) (hi : i < t.length) : w.cell? (ad.add i) = some (.int .u8 t[i]) := by
  obtain ⟨b, off, rfl, _, hc⟩ := h.ex ad e
  rw [← hc i hi]
  unfold Addr.add
  by_cases h0 : i = 0
  · subst h0; simp
  · simp [h0]

def u8s (t : List Int) : List Value := t.map fun x => Value.int .u8 x

theorem TextA.src {w : World} {a : Option Addr} {cap : Nat} {t : List Int} (h : TextA w a cap t) (l e : Nat) (hl : l ≤ e) (he : e ≤ t.length) : SrcAt w (.slice (if cap = l then a else a.map (·.add l)) (e - l) (cap - l)) (e - l) (u8s ((t.drop l).take (e - l))) := by
  cases a with
  | none =>
    have hc := h.nil rfl
    have := h.le
    have h1 : e - l = 0 := by omega
    have h2 : cap - l = 0 := by omega
    left
    rw [h1, h2]
    refine ⟨?_, rfl, by simp [u8s]⟩
    split <;> rfl
  | some ad =>
    right
    by_cases hcap : cap = l
    · have := h.le
      have h1 : e - l = 0 := by omega
      rw [if_pos hcap, h1]
      exact ⟨ad, _, rfl, fun j u hu => by simp [u8s] at hu⟩
    · rw [if_neg hcap]
      refine ⟨ad.add l, _, rfl, fun j u hu => ?_⟩
      unfold u8s at hu
      rw [List.getElem?_map] at hu
      by_cases hj : j < e - l
      · rw [List.getElem?_take_of_lt hj, List.getElem?_drop, List.getElem?_eq_getElem (by omega)] at hu
        simp only [Option.map_some, Option.some.injEq] at hu
        subst hu
        have := h.at_ ad rfl (l + j) (by omega)
        rw [← this]
        have hadd : (ad.add l).add j = ad.add (l + j) := by
          unfold Addr.add
          by_cases h1 : l = 0
          · subst h1; simp
          · by_cases h2 : j = 0
            · subst h2; simp [h1]
            · simp [h1, h2, Nat.add_assoc]
        rw [hadd]
      · rw [List.getElem?_eq_none (by simp; omega)] at hu
        cases hu

theorem TextA.srcN {w : World} {a : Option Addr} {cap : Nat} {t : List Int} (h : TextA w a cap t) {l : Nat} {A : Option Addr} (hA : (if cap = l then a else Option.map (fun x => x.add l) a) = A) {m : Nat} (hm : l + m ≤ t.length) : SrcAt w (.slice A m (cap - l)) m (u8s ((t.drop l).take m)) := by
  have := h.src l (l + m) (by omega) hm
  rw [Nat.add_sub_cancel_left] at this
  rw [← hA]
  exact this

theorem TextA.src0 {w : World} {a : Option Addr} {cap : Nat} {t : List Int} (h : TextA w a cap t) {m : Nat} (hm : m ≤ t.length) : SrcAt w (.slice a m cap) m (u8s (t.take m)) := by
  cases a with
  | none =>
    have hc := h.nil rfl
    have := h.le
    obtain rfl : m = 0 := by omega
    subst hc
    exact .inl ⟨rfl, rfl, by simp [u8s]⟩
  | some ad =>
    right
    refine ⟨ad, cap, rfl, fun j u hu => ?_⟩
    unfold u8s at hu
    rw [List.getElem?_map] at hu
    by_cases hj : j < m
    · rw [List.getElem?_take_of_lt hj, List.getElem?_eq_getElem (by omega)] at hu
      simp only [Option.map_some, Option.some.injEq] at hu
      subst hu
      exact h.at_ ad rfl j (by omega)
    · rw [List.getElem?_eq_none (by simp; omega)] at hu
      cases hu

theorem TextA.kept0 {w w' : World} {a : Option Addr} {cap : Nat} {t : List Int} (h : TextA w a cap t) (hf : Fr0 w w') : TextA w' a cap t :=
  ⟨h.le, h.nil, fun ad e => by
    obtain ⟨b, off, h1, h2, h3⟩ := h.ex ad e
    exact ⟨b, off, h1, by have := Fr.size hf; omega, fun i hi => (hf.cell b _ h2).trans (h3 i hi)⟩⟩

theorem u8s_one (t : List Int) : ∀ u ∈ u8s t, u.oneCell' = true := fun u hu => by obtain ⟨z, _, rfl⟩ := List.mem_map.1 hu; rfl
theorem u8s_len (t : List Int) : (u8s t).length = t.length := by simp [u8s]

theorem own_of {w w3 : World} {Z n : Nat} {v : Value} {xs : List Value} {r : List Int} (hZ : w.heap.size = Z) (h : w3.ownsRow Z 5 1 v n xs) (hn : r.length = n) (hx : xs = u8s r) (hf : Fr0 w w3) : OwnB w w3 v r := by
  subst hZ
  subst hn
  subst hx
  exact ⟨h, hf⟩

set_option maxRecDepth 100000 in
set_option maxHeartbeats 4000000 in
theorem ref36_Apply_put {w : World} {ta pa : Option Addr} {tc pc : Nat} {t u : List Int} (hT : TextA w ta tc t) (hU : TextA w pa pc u) (k : Int) (a n : Nat) (to_ x : Int) (hk : k = 1 ∨ k = 2 ∨ k = 3) (hin : a + n ≤ t.length) (hl : t.length ≤ 4096) (hu : u.length ≤ 4096) :
    Calls Tryz.prog 48 #[.slice ta t.length tc, .agg #[.int .i64 k, .int .i64 a, .int .i64 n, .int .i64 to_, .int .i64 x], .slice pa u.length pc] w fun e w' => ∃ v, e = .returned v ∧ OwnB w w' v (t.take a ++ u ++ t.drop (a + n)) := by
  have hle := hT.le
  have q1 : (k == 4) = false := by rcases hk with rfl | rfl | rfl <;> rfl
  have q2 : (k == 5) = false := by rcases hk with rfl | rfl | rfl <;> rfl
  have x1 : (0 : Int) ≤ (a : Int) := by omega
  have x2 : (a : Int) ≤ (a : Int) + (n : Int) := by omega
  have x3 : (0 : Int) ≤ (a : Int) + (n : Int) := by omega
  have x4 : (a : Int) + (n : Int) ≤ (tc : Int) := by omega
  have x5 : (a : Int) ≤ (tc : Int) := by omega
  have x6 : (a : Int) + (n : Int) ≤ (t.length : Int) := by omega
  have e1 := IntWalk.i64_in ((a : Int) + (n : Int)) (by omega)
  have e2 : ((a : Int) + (n : Int)).toNat = a + n := by omega
  obtain ⟨A1, hA1⟩ : ∃ A, (if tc = a then ta else Option.map (fun x => x.add a) ta) = A := ⟨_, rfl⟩
  obtain ⟨A2, hA2⟩ : ∃ A, (if tc = a + n then ta else Option.map (fun x => x.add (a + n)) ta) = A := ⟨_, rfl⟩
  have HT := Lib.hid hT
  have HU := Lib.hid hU
  clear hT hU
  go_enter Tryz.func48, Tryz.ntmps48
  go_wp2_with fail
  obtain ⟨W, hW⟩ : ∃ W, w.alloc (.cells #[.int .i64 k, .int .i64 a, .int .i64 n, .int .i64 to_, .int .i64 x] 78 (0, 0)) = W := ⟨_, rfl⟩
  rw [hW]
  have hD : W.heap[w.heap.size]? = some (.cells #[.int .i64 k, .int .i64 a, .int .i64 n, .int .i64 to_, .int .i64 x] 78 (0, 0)) := by rw [← hW]; exact alloc_at _ _ _ rfl
  have hf0 : Fr0 w W.drew := by rw [← hW]; exact ((Fr0.refl w).alloc _).drew
  obtain ⟨d0, d1, d2, d3, d4, lD⟩ := cells5 hD
  have HF0 := Lib.hid hf0
  clear hf0 hW
  generalize hZ : w.heap.size = Z at *
  have hDd : W.drew.heap[Z]? = some (.cells #[.int .i64 k, .int .i64 a, .int .i64 n, .int .i64 to_, .int .i64 x] 78 (0, 0)) := hD
  have HDd := Lib.hid hDd
  have hZ0 : Z ≤ W.drew.heap.size := Nat.le_of_lt lD
  have hd : (t.drop (a + n)).length = t.length - (a + n) := List.length_drop
  have htd : (t.drop (a + n)).take (t.length - (a + n)) = t.drop (a + n) := List.take_of_length_le (by rw [hd]; exact Nat.le_refl _)
  have htk : (t.take a).length = a := by rw [List.length_take]; omega
  clear hDd hD
  go_region_law (first
    | (refine step_append_rt rt_byte (by rfl) _ _ (by rfl) Z v2 (a + u.length) (u8s (t.take a) ++ u8s u) (by rfl) HR2.out (.slice A2 (t.length - (a + n)) (tc - (a + n))) (t.length - (a + n)) (u8s ((t.drop (a + n)).take (t.length - (a + n)))) (by rfl) ((HT.out.kept0 HF2.out).srcN hA2 (by omega)) (by rw [u8s_len, List.length_take]; omega) (u8s_one _) (by unfold maxLen; omega) (by omega) hZ2 ?_; intro v3 w3 hr3 hg3 hat3; have HF3 : Hid (Fr0 w w3) := Lib.hid (Fr.grown HF2.out hg3 (fun j hj hlt => by have := (HR2.out.lt j hj).1; omega)); have HR3 := Lib.hid hr3; clear hr3 hg3 hat3)
    | (refine step_append_rt rt_byte (by rfl) _ _ (by rfl) Z v1 a (u8s (t.take a)) (by rfl) HR1.out (.slice pa u.length pc) u.length (u8s (u.take u.length)) (by rfl) ((HU.out.kept0 HF1.out).src0 (Nat.le_refl _)) (by rw [u8s_len, List.length_take]; omega) (u8s_one _) (by unfold maxLen; omega) (by omega) hZ1 ?_; intro v2 w2 hr2 hg2 hat2; rw [List.take_length] at hr2; have HF2 : Hid (Fr0 w w2) := Lib.hid (Fr.grown HF1.out hg2 (fun j hj hlt => by have := (HR1.out.lt j hj).1; omega)); have HB2 := Lib.hid ((Fr.grown (Fr.refl _ w1) hg2 (fun j hj _ => hj)).kept HB1.out (fun e => by obtain ⟨cur, hc⟩ := owns_block HR1.out e; exact ne_of_types hc HB1.out (by decide) rfl)); obtain ⟨g0, g1, g2, g3, g4, gl⟩ := cells5 HB2.out; have hZ2 := Nat.le_of_lt gl; have HR2 := Lib.hid hr2; clear hr2 hg2 hat2)
    | (refine step_append_rt rt_byte (by rfl) _ _ (by rfl) Z (.slice none 0 0) 0 [] (by rfl) (World.ownsRow_nil _ _ _ _) (.slice ta a tc) a (u8s (t.take a)) (by rfl) ((HT.out.kept0 HF0.out).src0 (by omega)) (by rw [u8s_len]; omega) (u8s_one _) (by unfold maxLen; omega) (by omega) hZ0 ?_; intro v1 w1 hr1 hg1 hat1; rw [Nat.zero_add, List.nil_append] at hr1; have HF1 : Hid (Fr0 w w1) := Lib.hid (Fr.grown HF0.out hg1 (fun j hj _ => by cases hj)); have HB1 := Lib.hid ((Fr.grown (Fr.refl _ W.drew) hg1 (fun j hj _ => hj)).kept HDd.out (fun e => by cases e)); obtain ⟨f0, f1, f2, f3, f4, fl⟩ := cells5 HB1.out; have hZ1 := Nat.le_of_lt fl; have HR1 := Lib.hid hr1; clear hr1 hg1 hat1))
  all_goals
    have HX : Hid (OwnB w w3 v3 (t.take a ++ u ++ t.drop (a + n))) := Lib.hid (own_of (r := t.take a ++ u ++ t.drop (a + n)) hZ HR3.out (by simp only [List.length_append, htk, hd]) (by rw [htd]; simp [u8s]) HF3.out)
    clear HR3 HR2 HR1 HF3 HF2 HF1 HF0 HT HU HDd HB1 HB2
    go_wp2_with fail
    go_ret
    exact ⟨_, rfl, HX.out⟩

end Go.Proofs.YtclpndigmidjkaaGreat

/- The walk of ref36.Apply: a move in one piece. -/
set_option linter.unusedSimpArgs false
set_option linter.unusedVariables false
namespace Go.Proofs.YtclpndigmidjkaaGreat
open Go.RowKit

set_option maxRecDepth 100000 in
set_option maxHeartbeats 4000000 in
theorem ref36_Apply_dup {w : World} {ta pa : Option Addr} {tc pc : Nat} {t : List Int} (hT : TextA w ta tc t) (a n m : Nat) (x : Int) {un : Nat} (hin : a + n ≤ t.length) (hm : m ≤ t.length) (hl : t.length ≤ 4096) :
    Calls Tryz.prog 48 #[.slice ta t.length tc, .agg #[.int .i64 4, .int .i64 a, .int .i64 n, .int .i64 m, .int .i64 x], .slice pa un pc] w fun e w' => ∃ v, e = .returned v ∧ OwnB w w' v (t.take m ++ (t.drop a).take n ++ t.drop m) := by
  have hle := hT.le
  have x1 : (0 : Int) ≤ (a : Int) := by omega
  have x2 : (a : Int) ≤ (a : Int) + (n : Int) := by omega
  have x3 : (0 : Int) ≤ (a : Int) + (n : Int) := by omega
  have x4 : (a : Int) + (n : Int) ≤ (tc : Int) := by omega
  have x5 : (a : Int) ≤ (tc : Int) := by omega
  have x6 : (0 : Int) ≤ (m : Int) := by omega
  have x7 : (m : Int) ≤ (tc : Int) := by omega
  have x8 : (m : Int) ≤ (t.length : Int) := by omega
  have e1 := IntWalk.i64_in ((a : Int) + (n : Int)) (by omega)
  have e2 : ((a : Int) + (n : Int)).toNat = a + n := by omega
  have e3 : a + n - a = n := by omega
  obtain ⟨A1, hA1⟩ : ∃ A, (if tc = a then ta else Option.map (fun x => x.add a) ta) = A := ⟨_, rfl⟩
  obtain ⟨A2, hA2⟩ : ∃ A, (if tc = m then ta else Option.map (fun x => x.add m) ta) = A := ⟨_, rfl⟩
  have HT := Lib.hid hT
  clear hT
  go_enter Tryz.func48, Tryz.ntmps48
  go_wp2_with fail
  obtain ⟨W, hW⟩ : ∃ W, w.alloc (.cells #[.int .i64 4, .int .i64 a, .int .i64 n, .int .i64 m, .int .i64 x] 78 (0, 0)) = W := ⟨_, rfl⟩
  rw [hW]
  have hD : W.heap[w.heap.size]? = some (.cells #[.int .i64 4, .int .i64 a, .int .i64 n, .int .i64 m, .int .i64 x] 78 (0, 0)) := by rw [← hW]; exact alloc_at _ _ _ rfl
  have hf0 : Fr0 w W.drew := by rw [← hW]; exact ((Fr0.refl w).alloc _).drew
  obtain ⟨d0, d1, d2, d3, d4, lD⟩ := cells5 hD
  have HF0 := Lib.hid hf0
  clear hf0 hW
  generalize hZ : w.heap.size = Z at *
  have hDd : W.drew.heap[Z]? = some (.cells #[.int .i64 4, .int .i64 a, .int .i64 n, .int .i64 m, .int .i64 x] 78 (0, 0)) := hD
  have HDd := Lib.hid hDd
  have hZ0 : Z ≤ W.drew.heap.size := Nat.le_of_lt lD
  have hd : (t.drop m).length = t.length - m := List.length_drop
  have hdn : ((t.drop a).take n).length = n := by rw [List.length_take, List.length_drop]; omega
  have htd : (t.drop m).take (t.length - m) = t.drop m := List.take_of_length_le (by rw [hd]; exact Nat.le_refl _)
  have htk : (t.take m).length = m := by rw [List.length_take]; omega
  clear hDd hD
  go_region_law (first
    | (refine step_append_rt rt_byte (by rfl) _ _ (by rfl) Z v2 (m + n) (u8s (t.take m) ++ u8s ((t.drop a).take n)) (by rfl) HR2.out (.slice A2 (t.length - m) (tc - m)) (t.length - m) (u8s ((t.drop m).take (t.length - m))) (by rfl) ((HT.out.kept0 HF2.out).srcN hA2 (by omega)) (by rw [u8s_len, List.length_take]; omega) (u8s_one _) (by unfold maxLen; omega) (by omega) hZ2 ?_; intro v3 w3 hr3 hg3 hat3; have HF3 : Hid (Fr0 w w3) := Lib.hid (Fr.grown HF2.out hg3 (fun j hj hlt => by have := (HR2.out.lt j hj).1; omega)); have HR3 := Lib.hid hr3; clear hr3 hg3 hat3)
    | (refine step_append_rt rt_byte (by rfl) _ _ (by rfl) Z v1 m (u8s (t.take m)) (by rfl) HR1.out (.slice A1 n (tc - a)) n (u8s ((t.drop a).take n)) (by rfl) ((HT.out.kept0 HF1.out).srcN hA1 hin) (by rw [u8s_len, hdn]; omega) (u8s_one _) (by unfold maxLen; omega) (by omega) hZ1 ?_; intro v2 w2 hr2 hg2 hat2; have HF2 : Hid (Fr0 w w2) := Lib.hid (Fr.grown HF1.out hg2 (fun j hj hlt => by have := (HR1.out.lt j hj).1; omega)); have HB2 := Lib.hid ((Fr.grown (Fr.refl _ w1) hg2 (fun j hj _ => hj)).kept HB1.out (fun e => by obtain ⟨cur, hc⟩ := owns_block HR1.out e; exact ne_of_types hc HB1.out (by decide) rfl)); obtain ⟨g0, g1, g2, g3, g4, gl⟩ := cells5 HB2.out; have hZ2 := Nat.le_of_lt gl; have HR2 := Lib.hid hr2; clear hr2 hg2 hat2)
    | (refine step_append_rt rt_byte (by rfl) _ _ (by rfl) Z (.slice none 0 0) 0 [] (by rfl) (World.ownsRow_nil _ _ _ _) (.slice ta m tc) m (u8s (t.take m)) (by rfl) ((HT.out.kept0 HF0.out).src0 hm) (by rw [u8s_len]; omega) (u8s_one _) (by unfold maxLen; omega) (by omega) hZ0 ?_; intro v1 w1 hr1 hg1 hat1; rw [Nat.zero_add, List.nil_append] at hr1; have HF1 : Hid (Fr0 w w1) := Lib.hid (Fr.grown HF0.out hg1 (fun j hj _ => by cases hj)); have HB1 := Lib.hid ((Fr.grown (Fr.refl _ W.drew) hg1 (fun j hj _ => hj)).kept HDd.out (fun e => by cases e)); obtain ⟨f0, f1, f2, f3, f4, fl⟩ := cells5 HB1.out; have hZ1 := Nat.le_of_lt fl; have HR1 := Lib.hid hr1; clear hr1 hg1 hat1))
  all_goals
    have HX : Hid (OwnB w w3 v3 (t.take m ++ (t.drop a).take n ++ t.drop m)) := Lib.hid (own_of (r := t.take m ++ (t.drop a).take n ++ t.drop m) hZ HR3.out (by simp only [List.length_append, htk, hd, hdn]) (by rw [htd]; simp [u8s]) HF3.out)
    clear HR3 HR2 HR1 HF3 HF2 HF1 HF0 HT HDd HB1 HB2
    go_wp2_with fail
    go_ret
    exact ⟨_, rfl, HX.out⟩

end Go.Proofs.YtclpndigmidjkaaGreat

/- The walk of ref36.Apply: a move around a piece. -/
set_option linter.unusedSimpArgs false
set_option linter.unusedVariables false
namespace Go.Proofs.YtclpndigmidjkaaGreat
open Go.RowKit

/-- What the loop has laid. -/
def mvP (t l : List Int) (a n m : Nat) : Nat → List Int
  | 0 => []
  | k + 1 => mvP t l a n m k ++ (if k = m then l else []) ++ (if k < t.length ∧ (k < a ∨ a + n ≤ k) then [t.getD k 0] else [])

theorem mvP_le (t l : List Int) (a n m : Nat) : ∀ k, (mvP t l a n m k).length ≤ k + (if m < k then l.length else 0)
  | 0 => by simp [mvP]
  | k + 1 => by
    have ih := mvP_le t l a n m k
    unfold mvP
    rw [List.length_append, List.length_append]
    have h2 : (if k < t.length ∧ (k < a ∨ a + n ≤ k) then [t.getD k 0] else []).length ≤ 1 := by split <;> simp
    generalize (if k < t.length ∧ (k < a ∨ a + n ≤ k) then [t.getD k 0] else []) = z at *
    by_cases c : k = m
    · subst c
      rw [if_neg (Nat.lt_irrefl _)] at ih
      rw [if_pos rfl, if_pos (Nat.lt_succ_self _)]
      omega
    · rw [if_neg c]
      by_cases c2 : m < k
      · rw [if_pos c2] at ih
        rw [if_pos (Nat.lt_succ_of_lt c2)]
        simp only [List.length_nil]
        omega
      · rw [if_neg c2] at ih
        rw [if_neg (by omega)]
        simp only [List.length_nil]
        omega

/-- The state of the loop. -/
structure MvR (w wr : World) (v : Value) (cs : Array Value) (r : List Int) : Prop where
  own : OwnB w wr v r
  blk : wr.heap[w.heap.size]? = some (.cells cs 78 (0, 0))

theorem MvR.app {w wr w2 : World} {v v2 : Value} {cs : Array Value} {r s : List Int} {x : Nat} {ys : List Value} (h : MvR w wr v cs r) (ho : w2.ownsRow w.heap.size 5 1 v2 (r.length + x) ((r.map fun x => Value.int .u8 x) ++ ys)) (hx : s.length = x) (hy : ys = u8s s) (hg : wr.grownBy w2 v.ownBlock) : MvR w w2 v2 cs (r ++ s) := by
  subst hx
  subst hy
  refine ⟨⟨?_, Fr.grown h.own.fr hg (fun j hj hlt => by have := (h.own.row.lt j hj).1; omega)⟩, ?_⟩
  · rw [List.length_append, List.map_append]; exact ho
  · exact (Fr.grown (Fr.refl _ wr) hg (fun j hj _ => hj)).kept h.blk (fun e => by obtain ⟨cur, hc⟩ := owns_block h.own.row e; exact ne_of_types hc h.blk (by decide) rfl)

theorem MvR.kept0 {w wr W : World} {v : Value} {cs : Array Value} {r : List Int} (h : MvR w wr v cs r) (hf : Fr0 wr W) : MvR w W v cs r := ⟨h.own.kept0 hf, hf.kept h.blk⟩

set_option maxRecDepth 100000 in
set_option maxHeartbeats 4000000 in
theorem ref36_Apply_move {w : World} {ta pa : Option Addr} {tc pc : Nat} {t : List Int} (hT : TextA w ta tc t) (a n m : Nat) (x : Int) {un : Nat} (hin : a + n ≤ t.length) (hm : m ≤ t.length) (hl : t.length ≤ 4096) :
    Calls Tryz.prog 48 #[.slice ta t.length tc, .agg #[.int .i64 5, .int .i64 a, .int .i64 n, .int .i64 m, .int .i64 x], .slice pa un pc] w fun e w' => ∃ v, e = .returned v ∧ OwnB w w' v (mvP t ((t.drop a).take n) a n m (t.length + 1)) := by
  have hle := hT.le
  have x1 : (0 : Int) ≤ (a : Int) := by omega
  have x2 : (a : Int) ≤ (a : Int) + (n : Int) := by omega
  have x3 : (0 : Int) ≤ (a : Int) + (n : Int) := by omega
  have x4 : (a : Int) + (n : Int) ≤ (tc : Int) := by omega
  have x5 : (a : Int) ≤ (tc : Int) := by omega
  have e1 := IntWalk.i64_in ((a : Int) + (n : Int)) (by omega)
  have e2 : ((a : Int) + (n : Int)).toNat = a + n := by omega
  have e3 : a + n - a = n := by omega
  obtain ⟨A1, hA1⟩ : ∃ A, (if tc = a then ta else Option.map (fun x => x.add a) ta) = A := ⟨_, rfl⟩
  have HT := Lib.hid hT
  clear hT
  have HP0 : Hid (mvP t ((t.drop a).take n) a n m 0 = []) := rfl
  have HPS : Hid (∀ k, mvP t ((t.drop a).take n) a n m (k + 1) = mvP t ((t.drop a).take n) a n m k ++ (if k = m then (t.drop a).take n else []) ++ (if k < t.length ∧ (k < a ∨ a + n ≤ k) then [t.getD k 0] else [])) := Lib.hid fun k => rfl
  have HPL : Hid (∀ k, k ≤ t.length + 1 → (mvP t ((t.drop a).take n) a n m k).length ≤ 10000) := Lib.hid fun k hk => by
    have h1 := mvP_le t ((t.drop a).take n) a n m k
    have h2 : ((t.drop a).take n).length ≤ n := by rw [List.length_take]; omega
    split at h1 <;> omega
  have hdn : ((t.drop a).take n).length = n := by rw [List.length_take, List.length_drop]; omega
  obtain ⟨P, hP⟩ : ∃ P, mvP t ((t.drop a).take n) a n m = P := ⟨_, rfl⟩
  rw [hP] at HP0 HPS HPL ⊢
  clear hP
  go_enter Tryz.func48, Tryz.ntmps48
  go_wp2_with fail
  obtain ⟨W, hW⟩ : ∃ W, w.alloc (.cells #[.int .i64 5, .int .i64 a, .int .i64 n, .int .i64 m, .int .i64 x] 78 (0, 0)) = W := ⟨_, rfl⟩
  rw [hW]
  have H0 : Hid (MvR w W (.slice none 0 0) #[.int .i64 5, .int .i64 a, .int .i64 n, .int .i64 m, .int .i64 x] []) := Lib.hid ⟨⟨World.ownsRow_nil _ _ _ _, by rw [← hW]; exact (Fr0.refl w).alloc _⟩, by rw [← hW]; exact alloc_at _ _ _ rfl⟩
  clear hW
  have HAN := Lib.hid hA1
  clear hA1
  generalize hZ : w.heap.size = Z at *
  go_loopw [7, 9] (fun v i wr => ∃ k : Nat, k ≤ t.length + 1 ∧ i = .int .i64 k ∧ (∃ va vc, v = .slice va (P k).length vc) ∧ MvR w wr v #[.int .i64 5, .int .i64 a, .int .i64 n, .int .i64 m, .int .i64 x] (P k)) (fun _ i _ => t.length + 1 - (intOf i).toNat)
  case atStart => exact ⟨0, Nat.zero_le _, rfl, ⟨none, 0, by rw [HP0.out]; rfl⟩, by rw [HP0.out]; exact H0.out⟩
  case round =>
    obtain ⟨k, hk, rfl, ⟨va, vc, rfl⟩, hr⟩ := hrel
    clear H0 HP0
    have hplen := HPL.out k hk
    have HR := Lib.hid hr
    obtain ⟨d0, d1, d2, d3, d4, dl⟩ := cells5 hr.blk
    rw [hZ] at d0 d1 d2 d3 d4 dl
    clear hr
    by_cases hlt : k < t.length + 1
    · have q1 : decide ((k : Int) ≤ (t.length : Int)) = true := decide_eq_true (by omega)
      by_cases hkm : k = m
      · subst hkm
        have q2 : ((k : Int) == (k : Int)) = true := beq_iff_eq.2 rfl
        have hsz : w.heap.size ≤ wr.heap.size := Fr.size HR.out.own.fr
        have hlen2 : (P k ++ (t.drop a).take n).length = (P k).length + n := by rw [List.length_append, hdn]
        by_cases hkeep : k < t.length ∧ (k < a ∨ a + n ≤ k)
        · obtain ⟨h1, h2⟩ := hkeep
          have q3 : decide ((k : Int) < (t.length : Int)) = true := decide_eq_true (by omega)
          have HS := HPS.out k
          rw [if_pos rfl, if_pos ⟨h1, h2⟩, getD_at h1] at HS
          have HN := Lib.hid HS
          clear HS
          obtain ⟨b, off, rfl, lb, hc⟩ : ∃ b off, ta = some ⟨b, off, none⟩ ∧ b < w.heap.size ∧ ∀ i (h : i < t.length), w.cell? ⟨b, off + i, none⟩ = some (.int .u8 t[i]) := by
            cases ta with
            | none => have := HT.out.nil rfl; omega
            | some ad => obtain ⟨b, off, e, h3, h4⟩ := HT.out.ex ad rfl; exact ⟨b, off, by rw [e], h3, h4⟩
          have HC := Lib.hid (hc k h1)
          clear hc
          generalize t[k] = y at *
          rcases Classical.em (k < a) with g1 | g1
          · have q4 : decide ((k : Int) < (a : Int)) = true := decide_eq_true (by omega)
            go_wp2_with (first | (at_builtin; refine wpList_append_rt rt_byte rfl _ _ rfl w.heap.size (.slice va2 ((P k).length + n) vc2) (P k ++ (t.drop a).take n).length ((P k ++ (t.drop a).take n).map fun x => Value.int .u8 x) rfl (HR2.out.kept0 ((Fr0.refl _).alloc _)).own.row _ 1 [.int .u8 y] rfl (src_one _ _ _ _) rfl (by simp [Value.oneCell']) (by unfold maxLen; omega) (by omega) (by simp; omega) ?_; intro v3 w3 hr3 hg3 hat3; have HR3 := Lib.hid ((HR2.out.kept0 ((Fr0.refl _).alloc _)).app (s := [y]) hr3 rfl rfl hg3); obtain ⟨va3, vc3, rfl⟩ := owns_form hr3; clear hr3 hg3 hat3) | (at_builtin; refine wpList_append_rt rt_byte rfl _ _ rfl w.heap.size (.slice va (P k).length vc) (P k).length ((P k).map fun x => Value.int .u8 x) rfl HR.out.own.row (.slice A1 n (tc - a)) n (u8s ((t.drop a).take n)) rfl ((HT.out.kept0 HR.out.own.fr).srcN HAN.out hin) (by rw [u8s_len, hdn]; omega) (u8s_one _) (by unfold maxLen; omega) (by omega) hsz ?_; intro v2 w2 hr2 hg2 hat2; have HR2 := Lib.hid (HR.out.app hr2 hdn rfl hg2); obtain ⟨va2, vc2, rfl⟩ := owns_form hr2; obtain ⟨f0, f1, f2, f3, f4, fl⟩ := cells5 HR2.out.blk; rw [hZ] at f0 f1 f2 f3 f4 fl; have hsz2 : w.heap.size ≤ w2.heap.size := Fr.size HR2.out.own.fr; have hck := (HR2.out.own.fr.cell b _ lb).trans HC.out; have lbw : b < w2.heap.size := (by omega); clear hr2 hg2 hat2))
            go_roundw
            case rel => exact ⟨k + 1, by omega, by go_num, ⟨va3, vc3, by rw [HN.out, List.length_append, hlen2]; rfl⟩, by rw [HN.out, ← hlen2]; exact HR3.out⟩
            case measure => simp [intOf]; omega
          · have q4 : decide ((k : Int) < (a : Int)) = false := decide_eq_false (by omega)
            have q5 : decide ((a : Int) + (n : Int) ≤ (k : Int)) = true := decide_eq_true (by omega)
            go_wp2_with (first | (at_builtin; refine wpList_append_rt rt_byte rfl _ _ rfl w.heap.size (.slice va2 ((P k).length + n) vc2) (P k ++ (t.drop a).take n).length ((P k ++ (t.drop a).take n).map fun x => Value.int .u8 x) rfl (HR2.out.kept0 ((Fr0.refl _).alloc _)).own.row _ 1 [.int .u8 y] rfl (src_one _ _ _ _) rfl (by simp [Value.oneCell']) (by unfold maxLen; omega) (by omega) (by simp; omega) ?_; intro v3 w3 hr3 hg3 hat3; have HR3 := Lib.hid ((HR2.out.kept0 ((Fr0.refl _).alloc _)).app (s := [y]) hr3 rfl rfl hg3); obtain ⟨va3, vc3, rfl⟩ := owns_form hr3; clear hr3 hg3 hat3) | (at_builtin; refine wpList_append_rt rt_byte rfl _ _ rfl w.heap.size (.slice va (P k).length vc) (P k).length ((P k).map fun x => Value.int .u8 x) rfl HR.out.own.row (.slice A1 n (tc - a)) n (u8s ((t.drop a).take n)) rfl ((HT.out.kept0 HR.out.own.fr).srcN HAN.out hin) (by rw [u8s_len, hdn]; omega) (u8s_one _) (by unfold maxLen; omega) (by omega) hsz ?_; intro v2 w2 hr2 hg2 hat2; have HR2 := Lib.hid (HR.out.app hr2 hdn rfl hg2); obtain ⟨va2, vc2, rfl⟩ := owns_form hr2; obtain ⟨f0, f1, f2, f3, f4, fl⟩ := cells5 HR2.out.blk; rw [hZ] at f0 f1 f2 f3 f4 fl; have hsz2 : w.heap.size ≤ w2.heap.size := Fr.size HR2.out.own.fr; have hck := (HR2.out.own.fr.cell b _ lb).trans HC.out; have lbw : b < w2.heap.size := (by omega); clear hr2 hg2 hat2))
            go_roundw
            case rel => exact ⟨k + 1, by omega, by go_num, ⟨va3, vc3, by rw [HN.out, List.length_append, hlen2]; rfl⟩, by rw [HN.out, ← hlen2]; exact HR3.out⟩
            case measure => simp [intOf]; omega
        · have HS := HPS.out k
          rw [if_pos rfl, if_neg hkeep, List.append_nil] at HS
          rw [Classical.not_and_iff_not_or_not] at hkeep
          have HN := Lib.hid HS
          clear HS
          by_cases h1 : k < t.length
          · have q3 : decide ((k : Int) < (t.length : Int)) = true := decide_eq_true (by omega)
            have q4 : decide ((k : Int) < (a : Int)) = false := decide_eq_false (by omega)
            have q5 : decide ((a : Int) + (n : Int) ≤ (k : Int)) = false := decide_eq_false (by omega)
            go_wp2_with (at_builtin; refine wpList_append_rt rt_byte rfl _ _ rfl w.heap.size (.slice va (P k).length vc) (P k).length ((P k).map fun x => Value.int .u8 x) rfl HR.out.own.row (.slice A1 n (tc - a)) n (u8s ((t.drop a).take n)) rfl ((HT.out.kept0 HR.out.own.fr).srcN HAN.out hin) (by rw [u8s_len, hdn]; omega) (u8s_one _) (by unfold maxLen; omega) (by omega) hsz ?_; intro v2 w2 hr2 hg2 hat2; have HR2 := Lib.hid (HR.out.app hr2 hdn rfl hg2); obtain ⟨va2, vc2, rfl⟩ := owns_form hr2; obtain ⟨f0, f1, f2, f3, f4, fl⟩ := cells5 HR2.out.blk; rw [hZ] at f0 f1 f2 f3 f4 fl; have hsz2 : w.heap.size ≤ w2.heap.size := Fr.size HR2.out.own.fr; clear hr2 hg2 hat2)
            go_roundw
            case rel => exact ⟨k + 1, by omega, by go_num, ⟨va2, vc2, by rw [HN.out, hlen2]⟩, by rw [HN.out]; exact HR2.out⟩
            case measure => simp [intOf]; omega
          · have q3 : decide ((k : Int) < (t.length : Int)) = false := decide_eq_false (by omega)
            go_wp2_with (at_builtin; refine wpList_append_rt rt_byte rfl _ _ rfl w.heap.size (.slice va (P k).length vc) (P k).length ((P k).map fun x => Value.int .u8 x) rfl HR.out.own.row (.slice A1 n (tc - a)) n (u8s ((t.drop a).take n)) rfl ((HT.out.kept0 HR.out.own.fr).srcN HAN.out hin) (by rw [u8s_len, hdn]; omega) (u8s_one _) (by unfold maxLen; omega) (by omega) hsz ?_; intro v2 w2 hr2 hg2 hat2; have HR2 := Lib.hid (HR.out.app hr2 hdn rfl hg2); obtain ⟨va2, vc2, rfl⟩ := owns_form hr2; obtain ⟨f0, f1, f2, f3, f4, fl⟩ := cells5 HR2.out.blk; rw [hZ] at f0 f1 f2 f3 f4 fl; have hsz2 : w.heap.size ≤ w2.heap.size := Fr.size HR2.out.own.fr; clear hr2 hg2 hat2)
            go_roundw
            case rel => exact ⟨k + 1, by omega, by go_num, ⟨va2, vc2, by rw [HN.out, hlen2]⟩, by rw [HN.out]; exact HR2.out⟩
            case measure => simp [intOf]; omega
      · have q2 : ((k : Int) == (m : Int)) = false := beq_eq_false_iff_ne.2 (by omega)
        by_cases hkeep : k < t.length ∧ (k < a ∨ a + n ≤ k)
        · obtain ⟨h1, h2⟩ := hkeep
          have q3 : decide ((k : Int) < (t.length : Int)) = true := decide_eq_true (by omega)
          have HS := HPS.out k
          rw [if_neg hkm, if_pos ⟨h1, h2⟩, List.append_nil, getD_at h1] at HS
          have HN := Lib.hid HS
          clear HS
          have hsz : w.heap.size ≤ wr.heap.size := Fr.size HR.out.own.fr
          obtain ⟨b, off, rfl, lb, hc⟩ : ∃ b off, ta = some ⟨b, off, none⟩ ∧ b < w.heap.size ∧ ∀ i (h : i < t.length), w.cell? ⟨b, off + i, none⟩ = some (.int .u8 t[i]) := by
            cases ta with
            | none => have := HT.out.nil rfl; omega
            | some ad => obtain ⟨b, off, e, h3, h4⟩ := HT.out.ex ad rfl; exact ⟨b, off, by rw [e], h3, h4⟩
          have hck := (HR.out.own.fr.cell b _ lb).trans (hc k h1)
          have lbw : b < wr.heap.size := by omega
          clear hc
          generalize t[k] = y at *
          rcases Classical.em (k < a) with g1 | g1
          · have q4 : decide ((k : Int) < (a : Int)) = true := decide_eq_true (by omega)
            go_wp2_with (at_builtin; refine wpList_append_rt rt_byte rfl _ _ rfl w.heap.size (.slice va (P k).length vc) (P k).length ((P k).map fun x => Value.int .u8 x) rfl (HR.out.kept0 ((Fr0.refl _).alloc _)).own.row _ 1 [.int .u8 y] rfl (src_one _ _ _ _) rfl (by simp [Value.oneCell']) (by unfold maxLen; omega) (by omega) (by simp; omega) ?_; intro v3 w3 hr3 hg3 hat3; have HR3 := Lib.hid ((HR.out.kept0 ((Fr0.refl _).alloc _)).app (s := [y]) hr3 rfl rfl hg3); obtain ⟨va3, vc3, rfl⟩ := owns_form hr3; clear hr3 hg3 hat3)
            go_roundw
            case rel => exact ⟨k + 1, by omega, by go_num, ⟨va3, vc3, by rw [HN.out, List.length_append]; rfl⟩, by rw [HN.out]; exact HR3.out⟩
            case measure => simp [intOf]; omega
          · have q4 : decide ((k : Int) < (a : Int)) = false := decide_eq_false (by omega)
            have q5 : decide ((a : Int) + (n : Int) ≤ (k : Int)) = true := decide_eq_true (by omega)
            go_wp2_with (at_builtin; refine wpList_append_rt rt_byte rfl _ _ rfl w.heap.size (.slice va (P k).length vc) (P k).length ((P k).map fun x => Value.int .u8 x) rfl (HR.out.kept0 ((Fr0.refl _).alloc _)).own.row _ 1 [.int .u8 y] rfl (src_one _ _ _ _) rfl (by simp [Value.oneCell']) (by unfold maxLen; omega) (by omega) (by simp; omega) ?_; intro v3 w3 hr3 hg3 hat3; have HR3 := Lib.hid ((HR.out.kept0 ((Fr0.refl _).alloc _)).app (s := [y]) hr3 rfl rfl hg3); obtain ⟨va3, vc3, rfl⟩ := owns_form hr3; clear hr3 hg3 hat3)
            go_roundw
            case rel => exact ⟨k + 1, by omega, by go_num, ⟨va3, vc3, by rw [HN.out, List.length_append]; rfl⟩, by rw [HN.out]; exact HR3.out⟩
            case measure => simp [intOf]; omega
        · have HS := HPS.out k
          rw [if_neg hkm, if_neg hkeep, List.append_nil, List.append_nil] at HS
          rw [Classical.not_and_iff_not_or_not] at hkeep
          have HN := Lib.hid HS
          clear HS
          by_cases h1 : k < t.length
          · have q3 : decide ((k : Int) < (t.length : Int)) = true := decide_eq_true (by omega)
            have q4 : decide ((k : Int) < (a : Int)) = false := decide_eq_false (by omega)
            have q5 : decide ((a : Int) + (n : Int) ≤ (k : Int)) = false := decide_eq_false (by omega)
            go_wp2_with fail
            go_roundw
            case rel => exact ⟨k + 1, by omega, by go_num, ⟨va, vc, by rw [HN.out]⟩, by rw [HN.out]; exact HR.out⟩
            case measure => simp [intOf]; omega
          · have q3 : decide ((k : Int) < (t.length : Int)) = false := decide_eq_false (by omega)
            go_wp2_with fail
            go_roundw
            case rel => exact ⟨k + 1, by omega, by go_num, ⟨va, vc, by rw [HN.out]⟩, by rw [HN.out]; exact HR.out⟩
            case measure => simp [intOf]; omega
    · obtain rfl : k = t.length + 1 := by omega
      have q1 : decide (((t.length + 1 : Nat) : Int) ≤ (t.length : Int)) = false := decide_eq_false (by omega)
      have q2 : decide ((t.length : Int) + 1 ≤ (t.length : Int)) = false := decide_eq_false (by omega)
      go_wp2_with fail
      go_ret
      exact ⟨_, rfl, HR.out.own⟩

end Go.Proofs.YtclpndigmidjkaaGreat

/- The walk of base.Bytes over one text twice; what stands behind a text that a call made. -/
set_option linter.unusedSimpArgs false
set_option linter.unusedVariables false
namespace Go.Proofs.YtclpndigmidjkaaGreat
open Go.RowKit

theorem OwnB.text {w0 w : World} {v : Value} {t : List Int} (h : OwnB w0 w v t) : ∃ a cap, v = .slice a t.length cap ∧ TextA w a cap t := by
  rcases h.row.2 with ⟨e1, e2⟩ | ⟨g, cap, cur, e1, _, hg, hle, _, _, ht⟩
  · refine ⟨none, 0, by rw [e1, e2], by omega, fun _ => rfl, fun ad e => (by cases e)⟩
  · refine ⟨some ⟨g, 0, none⟩, cap, e1, by simpa using hle, fun e => (by cases e), fun ad e => ⟨g, 0, (by cases e; rfl), lt_of_block hg, fun i hi => ?_⟩⟩
    have h1 := congrArg (fun l => l[i]?) ht
    simp only [Nat.mul_one, List.getElem?_map, List.getElem?_eq_getElem hi, Option.map_some] at h1
    rw [List.getElem?_take_of_lt hi] at h1
    rw [cell_of_block hg, Nat.zero_add, ← Array.getElem?_toList, h1]

theorem conv_text {w : World} {a : Option Addr} {cap : Nat} {t : List Int} (h : TextA w a cap t) : (convert 72 9 (.slice a t.length cap)).run Tryz.prog w = .ok (.string (strOfNums t)) w := by
  cases a with
  | none =>
    have hc := h.nil rfl
    have := h.le
    have : t = [] := List.eq_nil_of_length_eq_zero (by omega)
    subst this
    exact run_convert_bytes_nil w 72 5 Tryz.underlying72 Tryz.underlying5 0 cap 9 Tryz.underlying9
  | some ad =>
    obtain ⟨b, off, rfl, lb, hc⟩ := h.ex ad rfl
    refine run_convert_bytes_arg w 72 5 Tryz.underlying72 Tryz.underlying5 b off t.length cap t rfl ?_ 9 Tryz.underlying9
    intro i hi
    rw [hc i hi, getD_at hi]

set_option maxRecDepth 100000 in
set_option maxHeartbeats 1000000 in
theorem base_Bytes_same {w : World} {a b : Option Addr} {ca cb : Nat} {t : List Int} (hA : TextA w a ca t) (hB : TextA w b cb t) :
    Calls Tryz.prog 47 #[.slice a t.length ca, .slice b t.length cb] w fun e w' => e = .returned (.bool true) ∧ Fr0 w w' := by
  have c1 := conv_text hA
  have c2 := conv_text hB
  have d1 : ∀ n, (convert 72 9 (.slice a t.length ca)).run Tryz.prog (w.drewN n) = .ok (.string (strOfNums t)) (w.drewN n) := fun n => conv_text (hA.kept0 ((Fr0.refl w).drewN n))
  have d2 : ∀ n, (convert 72 9 (.slice b t.length cb)).run Tryz.prog (w.drewN n) = .ok (.string (strOfNums t)) (w.drewN n) := fun n => conv_text (hB.kept0 ((Fr0.refl w).drewN n))
  clear hA hB
  go_enter Tryz.func47, Tryz.ntmps47
  go_wp2_with fail
  go_ret
  exact ⟨by simp, Fr0.refl w⟩

end Go.Proofs.YtclpndigmidjkaaGreat

/- ref36.Apply in all formed cases in range: the parts of arrT. -/
set_option linter.unusedSimpArgs false
set_option linter.unusedVariables false
namespace Go.Proofs.YtclpndigmidjkaaGreat
open Go.RowKit

/-- The kept letters from i on, s places. -/
def kpG (t : List Int) (a n i : Nat) : Nat → List Int
  | 0 => []
  | s + 1 => kpG t a n i s ++ (if i + s < t.length ∧ (i + s < a ∨ a + n ≤ i + s) then [t.getD (i + s) 0] else [])

theorem kpG_s (t : List Int) (a n i s : Nat) : kpG t a n i (s + 1) = kpG t a n i s ++ (if i + s < t.length ∧ (i + s < a ∨ a + n ≤ i + s) then [t.getD (i + s) 0] else []) := rfl
theorem mvP_s (t l : List Int) (a n m k : Nat) : mvP t l a n m (k + 1) = mvP t l a n m k ++ (if k = m then l else []) ++ (if k < t.length ∧ (k < a ∨ a + n ≤ k) then [t.getD k 0] else []) := rfl

theorem kpG_add (t : List Int) (a n i s : Nat) : ∀ r, kpG t a n i (s + r) = kpG t a n i s ++ kpG t a n (i + s) r
  | 0 => by simp [kpG]
  | r + 1 => by
    rw [← Nat.add_assoc, kpG_s, kpG_s, kpG_add t a n i s r, List.append_assoc, ← Nat.add_assoc]

theorem kpG_keep (t : List Int) (a n i : Nat) : ∀ s, i + s ≤ t.length → (i + s ≤ a ∨ a + n ≤ i) → kpG t a n i s = (t.drop i).take s
  | 0, _, _ => by simp [kpG]
  | s + 1, h, h2 => by
    unfold kpG
    rw [kpG_keep t a n i s (by omega) (by omega), if_pos (by omega)]
    have hs : s < (t.drop i).length := by rw [List.length_drop]; omega
    rw [List.take_succ_eq_append_getElem hs, getD_at (by omega : i + s < t.length), List.getElem_drop]

theorem kpG_skip (t : List Int) (a n i : Nat) : ∀ s, (a ≤ i ∧ i + s ≤ a + n) ∨ t.length ≤ i → kpG t a n i s = []
  | 0, _ => rfl
  | s + 1, h => by
    unfold kpG
    rw [kpG_skip t a n i s (by omega), if_neg (by omega)]
    rfl

theorem mvP_eq (t l : List Int) (a n m : Nat) : ∀ k, mvP t l a n m k = if k ≤ m then kpG t a n 0 k else kpG t a n 0 m ++ l ++ kpG t a n m (k - m)
  | 0 => by simp [mvP, kpG]
  | k + 1 => by
    rw [mvP_s, mvP_eq t l a n m k]
    generalize hz : (if k < t.length ∧ (k < a ∨ a + n ≤ k) then [t.getD k 0] else []) = z
    by_cases c : k < m
    · rw [if_pos (Nat.le_of_lt c), if_neg (Nat.ne_of_lt c), if_pos (show k + 1 ≤ m from c), List.append_nil, kpG_s, Nat.zero_add, hz]
    · by_cases e : k = m
      · subst e
        rw [if_pos (Nat.le_refl k), if_pos rfl, if_neg (Nat.not_succ_le_self k), Nat.add_sub_cancel_left]
        rw [show kpG t a n k 1 = z from by rw [← hz]; rfl]
      · have h1 : k + 1 - m = (k - m) + 1 := by omega
        rw [if_neg (show ¬ k ≤ m by omega), if_neg e, if_neg (show ¬ k + 1 ≤ m by omega), List.append_nil, h1, kpG_s, show m + (k - m) = k by omega, hz]
        simp only [List.append_assoc]

theorem mvP_all (t l : List Int) (a n m : Nat) (hin : a + n ≤ t.length) (hm : m ≤ t.length) (h : m ≤ a ∨ a + n ≤ m) :
    mvP t l a n m (t.length + 1) = if m ≤ a then t.take m ++ l ++ (t.drop m).take (a - m) ++ t.drop (a + n) else t.take a ++ (t.drop (a + n)).take (m - (a + n)) ++ l ++ t.drop m := by
  rw [mvP_eq, if_neg (by omega)]
  have hd : ∀ i, i ≤ t.length → (t.drop i).take (t.length - i) = t.drop i := fun i hi => List.take_of_length_le (by rw [List.length_drop]; exact Nat.le_refl _)
  by_cases c : m ≤ a
  · rw [if_pos c, show t.length + 1 - m = (a - m) + (n + ((t.length - (a + n)) + 1)) by omega, kpG_add, kpG_add, kpG_add]
    rw [kpG_keep t a n 0 m (by omega) (by omega), kpG_keep t a n m (a - m) (by omega) (by omega), kpG_skip t a n (m + (a - m)) n (by omega), kpG_keep t a n (m + (a - m) + n) (t.length - (a + n)) (by omega) (by omega), kpG_skip t a n _ 1 (by omega)]
    rw [show m + (a - m) + n = a + n by omega, hd _ hin]
    simp
  · have c2 : a + n ≤ m := by omega
    rw [if_neg c, show t.length + 1 - m = (t.length - m) + 1 by omega, kpG_add t a n m]
    rw [kpG_keep t a n m (t.length - m) (by omega) (by omega), kpG_skip t a n _ 1 (by omega), hd _ hm]
    have h1 : kpG t a n 0 m = kpG t a n 0 (a + (n + (m - (a + n)))) := by congr 1; omega
    rw [h1, kpG_add, kpG_add]
    rw [kpG_keep t a n 0 a (by omega) (by omega), kpG_skip t a n (0 + a) n (by omega), kpG_keep t a n (0 + a + n) (m - (a + n)) (by omega) (by omega)]
    rw [Nat.zero_add]
    simp

theorem ref36_Apply {w : World} {ta pa : Option Addr} {tc pc : Nat} {t u : List Int} (hT : TextA w ta tc t) (hU : TextA w pa pc u) {k a n m x : Int} (hf : frmB k n m x = true) (hw : witB t.length k a n m = true) (hl : t.length ≤ 4096) (hu : u.length ≤ 4096) :
    Calls Tryz.prog 48 #[.slice ta t.length tc, .agg #[.int .i64 k, .int .i64 a, .int .i64 n, .int .i64 m, .int .i64 x], .slice pa u.length pc] w fun e w' => ∃ v, e = .returned v ∧ OwnB w w' v (arrT k a n m t u).flatten := by
  unfold witB inR inT apB at hw
  simp only [Bool.and_eq_true, Bool.or_eq_true, decide_eq_true_eq, bne_iff_ne, ne_eq] at hw
  obtain ⟨⟨a0, n0, an⟩, ⟨m0, m1⟩, ap⟩ := hw
  unfold frmB at hf
  simp only [Bool.and_eq_true, Bool.or_eq_true, beq_iff_eq] at hf
  obtain ⟨a, rfl⟩ := Int.eq_ofNat_of_zero_le a0
  obtain ⟨n, rfl⟩ := Int.eq_ofNat_of_zero_le n0
  obtain ⟨m, rfl⟩ := Int.eq_ofNat_of_zero_le m0
  have hin : a + n ≤ t.length := by omega
  have hm : m ≤ t.length := by omega
  have hd : ∀ i, i ≤ t.length → (t.drop i).take (t.length - i) = t.drop i := fun i hi => List.take_of_length_le (by rw [List.length_drop]; exact Nat.le_refl _)
  have t1 : ((a : Int) + (n : Int)).toNat = a + n := by omega
  have t2 : ((t.length : Int) - ((a : Int) + (n : Int))).toNat = t.length - (a + n) := by omega
  have P := fun (hk : k = 1 ∨ k = 2 ∨ k = 3) => ref36_Apply_put hT hU k a n (m : Int) x hk hin hl hu
  rcases hf with ⟨rfl, hn, _⟩ | ⟨rfl, _⟩ | ⟨rfl, _⟩ | ⟨rfl | rfl, _⟩
  · have e : (arrT 1 a n m t u).flatten = t.take a ++ u ++ t.drop (a + n) := by
      have : n = 0 := by omega
      subst this
      simp [arrT]
    rw [e]
    exact P (by omega)
  · have e : (arrT 2 a n m t u).flatten = t.take a ++ u ++ t.drop (a + n) := by
      simp [arrT, cutL, t1, t2, hd _ hin]
    rw [e]
    exact P (by omega)
  · have e : (arrT 3 a n m t u).flatten = t.take a ++ u ++ t.drop (a + n) := by
      simp [arrT, cutL, t1, t2, hd _ hin]
    rw [e]
    exact P (by omega)
  · have e : (arrT 4 a n m t u).flatten = t.take m ++ (t.drop a).take n ++ t.drop m := by
      simp [arrT, cutL]
    rw [e]
    exact ref36_Apply_dup hT a n m x hin hm hl
  · have hap : m ≤ a ∨ a + n ≤ m := by
      rcases ap with h | h
      · exact absurd rfl h
      · omega
    have e : (arrT 5 a n m t u).flatten = mvP t ((t.drop a).take n) a n m (t.length + 1) := by
      rw [mvP_all t _ a n m hin hm hap]
      by_cases c : m ≤ a
      · have c' : (m : Int) ≤ (a : Int) := by omega
        have t3 : ((a : Int) - (m : Int)).toNat = a - m := by omega
        rw [if_pos c]
        simp [arrT, cutL, c', t1, t2, t3, hd _ hin, c]
      · have c' : ¬ (m : Int) ≤ (a : Int) := by omega
        have t3 : ((m : Int) - ((a : Int) + (n : Int))).toNat = m - (a + n) := by omega
        have t4 : ((t.length : Int) - (m : Int)).toNat = t.length - m := by omega
        rw [if_neg c]
        simp [arrT, cutL, c', t1, t2, t3, t4, hd _ hm, c]
    rw [e]
    exact ref36_Apply_move hT a n m x hin hm hl

end Go.Proofs.YtclpndigmidjkaaGreat

/- Levels: runs from the left; rows that can be read (plain). -/
import Derived.Test.YtodmpcnpedpheaaDoorQKw5
import Derived.Test.YtodmpcnpedpheaaDoorQSg3
import Derived.Deep.LoopGhost
set_option linter.unusedSimpArgs false
set_option linter.unusedVariables false
namespace Go.Proofs.YtodmpcnpedpheaaDoor
open Go.RowKit

/-- One symbol more, at the end. -/
def snR (g : List (Int × Nat)) (x : Int) : List (Int × Nat) :=
  match g.getLast? with
  | some (y, k) => if y = x then g.dropLast ++ [(y, k + 1)] else g ++ [(x, 1)]
  | none => [(x, 1)]

theorem snR_cons (p q : Int × Nat) (g : List (Int × Nat)) (x : Int) : snR (p :: q :: g) x = p :: snR (q :: g) x := by
  unfold snR
  rw [List.getLast?_cons_cons]
  cases h : (q :: g).getLast? with
  | none => simp at h
  | some r =>
    obtain ⟨y, k⟩ := r
    dsimp only
    split
    · simp [List.dropLast]
    · simp

def cnR (a : Int) (g : List (Int × Nat)) : List (Int × Nat) :=
  match g with
  | [] => [(a, 1)]
  | (y, k) :: g => if a = y then (y, k + 1) :: g else (a, 1) :: (y, k) :: g

theorem rle_cons (a : Int) (l : List Int) : rle (a :: l) = cnR a (rle l) := by
  rw [rle]
  unfold cnR
  cases h : rle l with
  | nil => rfl
  | cons p g => rfl

theorem cnR_snR (a x : Int) : ∀ (p : Int × Nat) (g : List (Int × Nat)), cnR a (snR (p :: g) x) = snR (cnR a (p :: g)) x
  | (y, k), [] => by
    by_cases c : y = x
    · subst c
      by_cases d : a = y
      · subst d; simp [snR, cnR]
      · simp [snR, cnR, d]
    · by_cases d : a = y
      · subst d; simp [snR, cnR, c]
      · simp [snR, cnR, c, d]
  | (y, k), q :: g => by
    rw [snR_cons]
    by_cases d : a = y
    · subst d
      show (if a = a then (a, k + 1) :: snR (q :: g) x else _) = snR (if a = a then (a, k + 1) :: q :: g else _) x
      rw [if_pos rfl, if_pos rfl, snR_cons]
    · show (if a = y then _ else (a, 1) :: (y, k) :: snR (q :: g) x) = snR (if a = y then _ else (a, 1) :: (y, k) :: q :: g) x
      rw [if_neg d, if_neg d, snR_cons, snR_cons]

theorem rle_ne : ∀ (a : Int) (l : List Int), rle (a :: l) ≠ [] := by
  intro a l h
  rw [rle_cons] at h
  unfold cnR at h
  split at h
  · cases h
  · split at h <;> cases h

theorem rle_snoc (x : Int) : ∀ l : List Int, rle (l ++ [x]) = snR (rle l) x
  | [] => by simp [rle, snR]
  | [a] => by
    show rle (a :: [x]) = _
    rw [rle_cons]
    simp only [rle, cnR, snR, List.getLast?_singleton]
    by_cases c : a = x
    · subst c; simp
    · simp [c]
  | a :: b :: l => by
    show rle (a :: ((b :: l) ++ [x])) = _
    rw [rle_cons, rle_snoc x (b :: l), rle_cons a (b :: l)]
    cases h : rle (b :: l) with
    | nil => exact absurd h (rle_ne b l)
    | cons p g => exact cnR_snR a x p g

theorem rle_last (x : Int) (l : List Int) : ∃ g k, rle (l ++ [x]) = g ++ [(x, k)] := by
  rw [rle_snoc]
  unfold snR
  split
  · rename_i y k h
    split
    · rename_i e
      subst e
      exact ⟨_, _, rfl⟩
    · exact ⟨_, _, rfl⟩
  · exact ⟨[], _, rfl⟩

/-- What the loop of Runs does: where the symbol goes on, and where it does not. -/
theorem rle_go {x : Int} {l : List Int} {g : List (Int × Nat)} {k : Nat} (h : rle l = g ++ [(x, k)]) : rle (l ++ [x]) = g ++ [(x, k + 1)] := by
  rw [rle_snoc, h]
  unfold snR
  simp
theorem rle_new {x y : Int} {l : List Int} {g : List (Int × Nat)} {k : Nat} (h : rle l = g ++ [(y, k)]) (hne : y ≠ x) : rle (l ++ [x]) = (g ++ [(y, k)]) ++ [(x, 1)] := by
  rw [rle_snoc, h]
  unfold snR
  simp [hne]

/-- A row of integers that can be read. -/
def RowC (w : World) (g : Nat) (k : IntKind) (xs : List Int) : Prop := g < w.heap.size ∧ ∀ (i : Nat) (h : i < xs.length), w.cell? ⟨g, i, none⟩ = some (.int k xs[i])

theorem RowC.kept0 {w w' : World} {g : Nat} {k : IntKind} {xs : List Int} (h : RowC w g k xs) (hf : Fr0 w w') : RowC w' g k xs :=
  ⟨Nat.lt_of_lt_of_le h.1 (Fr.size hf), fun i hi => (hf.cell g i h.1).trans (h.2 i hi)⟩
theorem RowC.of {w w' : World} {g : Nat} {k : IntKind} {xs : List Int} (h : RowC w g k xs) (hs : w.heap.size ≤ w'.heap.size) (hg : w'.heap[g]? = w.heap[g]?) : RowC w' g k xs :=
  ⟨Nat.lt_of_lt_of_le h.1 hs, fun i hi => (World.cell?_of_block hg).trans (h.2 i hi)⟩

theorem rowC_of_own {w : World} {base : Nat} {T : TypeId} {k : IntKind} {xs : List Int} {v : Value} (h : w.ownsRow base T 1 v xs.length (xs.map fun x => Value.int k x)) (h0 : xs ≠ []) : ∃ g cap, v = .slice (some ⟨g, 0, none⟩) xs.length cap ∧ base ≤ g ∧ RowC w g k xs ∧ xs.length ≤ cap ∧ cap ≤ maxLen := by
  have h' := h
  rcases h.2 with ⟨_, e⟩ | ⟨g, cap, cur, e, hb, hg, h1, h2, _⟩
  · exact absurd (List.eq_nil_of_length_eq_zero e) h0
  · subst e
    refine ⟨g, cap, rfl, hb, ⟨lt_of_block hg, fun i hi => ?_⟩, h1, h2⟩
    have hc := h'.cells (g := g) rfl i (.int k xs[i]) (by simp [hi])
    simpa only [Addr.add_lit, Nat.zero_add] using hc

def gvR (p : Int × Nat) : List Value := [.int .i64 p.1, .int .i64 p.2]
theorem gvR_len (g : List (Int × Nat)) : (g.flatMap gvR).length = g.length * 2 := flat_len gvR 2 g (fun _ _ => rfl)

theorem info_group : (Tryd.prog.info? 102).map (fun i => (i.zero, i.size, i.bytes)) = some (some (.agg #[.int .i64 0, .int .i64 0]), 2, 16) := by kernel_rfl
theorem rt_group : RT 99 102 2 16 := by
  obtain ⟨i, h1, h2, h3, h4⟩ := info_parts info_group
  exact ⟨by omega, i, _, Tryd.underlying99, h1, h2, h3, h4, rfl⟩
theorem info_span : (Tryd.prog.info? 130).map (fun i => (i.zero, i.size, i.bytes)) = some (some (.agg #[.int .i64 0, .int .i64 0]), 2, 16) := by kernel_rfl
theorem rt_span : RT 127 130 2 16 := by
  obtain ⟨i, h1, h2, h3, h4⟩ := info_parts info_span
  exact ⟨by omega, i, _, Tryd.underlying127, h1, h2, h3, h4, rfl⟩

/-- The last group's count is raised. -/
theorem gv_set (g : List (Int × Nat)) (x : Int) (k m : Nat) : ((g ++ [(x, k)]).flatMap gvR).set (g.length * 2 + 1) (.int .i64 (m : Nat)) = (g ++ [(x, m)]).flatMap gvR := by
  have hl := gvR_len g
  rw [List.flatMap_append, List.flatMap_append, List.set_append_right _ _ (by omega), hl]
  simp [gvR]

theorem own_end {α : Type} {vals : α → List Value} {size : Nat} {w : World} {base : Nat} {T : TypeId} {v : Value} {g : List α} {y : α} (h : w.ownsRow base T size v (g ++ [y]).length ((g ++ [y]).flatMap vals)) (hv : (g.flatMap vals).length = g.length * size) :
    ∃ b cap, v = .slice (some ⟨b, 0, none⟩) (g.length + 1) cap ∧ base ≤ b ∧ b < w.heap.size ∧ (∀ o, w.frozen? ⟨b, o, none⟩ = false) ∧ (∀ j u, (vals y)[j]? = some u → w.cell? ⟨b, g.length * size + j, none⟩ = some u) ∧ g.length + 1 ≤ cap ∧ cap ≤ maxLen := by
  have hl : (g ++ [y]).length = g.length + 1 := by simp
  have h' := h
  rcases h.2 with ⟨_, e⟩ | ⟨b, cap, cur, e, hb, hg, h1, h2, _⟩
  · rw [hl] at e; omega
  · rw [hl] at e h1
    subst e
    refine ⟨b, cap, rfl, hb, lt_of_block hg, fun o => frozen_of_block hg o, fun j u hj => ?_, h1, h2⟩
    have hc := h'.cells (g := b) rfl (g.length * size + j) u (by
      rw [List.flatMap_append, List.getElem?_append_right (by omega), hv, Nat.add_sub_cancel_left]
      simpa using hj)
    simpa only [Addr.add_lit, Nat.zero_add] using hc

end Go.Proofs.YtodmpcnpedpheaaDoor

/- The walk of levels.Runs. -/
set_option linter.unusedSimpArgs false
set_option linter.unusedVariables false
namespace Go.Proofs.YtodmpcnpedpheaaDoor
open Go.RowKit

theorem take_one (ids : List Int) (j : Nat) (h : j < ids.length) : ids.take (j + 1) = ids.take j ++ [ids[j]] := List.take_succ_eq_append_getElem h

theorem runs_new {ids : List Int} {j : Nat} (h : j < ids.length) (hn : ∀ h1 : 1 ≤ j, ids[j - 1]'(by omega) ≠ ids[j]) : rle (ids.take (j + 1)) = rle (ids.take j) ++ [(ids[j], 1)] := by
  rw [take_one ids j h]
  by_cases c : j = 0
  · subst c
    rw [List.take_zero]
    rfl
  · obtain ⟨i, rfl⟩ : ∃ i, j = i + 1 := ⟨j - 1, by omega⟩
    have hi : i < ids.length := by omega
    have e : ids.take (i + 1) = ids.take i ++ [ids[i]] := take_one ids i hi
    obtain ⟨g, k, hg⟩ := rle_last ids[i] (ids.take i)
    rw [← e] at hg
    rw [rle_new hg (by simpa using hn (by omega)), hg]

theorem runs_same {ids : List Int} {j : Nat} (h : j < ids.length) (h1 : 1 ≤ j) (he : ids[j - 1]'(by omega) = ids[j]) : ∃ g k, rle (ids.take j) = g ++ [(ids[j], k)] ∧ rle (ids.take (j + 1)) = g ++ [(ids[j], k + 1)] := by
  rw [take_one ids j h]
  obtain ⟨i, rfl⟩ : ∃ i, j = i + 1 := ⟨j - 1, by omega⟩
  have hi : i < ids.length := by omega
  have e : ids.take (i + 1) = ids.take i ++ [ids[i]] := take_one ids i hi
  obtain ⟨g, k, hg⟩ := rle_last ids[i] (ids.take i)
  rw [← e] at hg
  have he' : ids[i] = ids[i + 1] := by simpa using he
  rw [he'] at hg
  exact ⟨g, k, hg, rle_go hg⟩

theorem rle_short (l : List Int) : (rle l).length ≤ l.length := (rle_ok l).2.2.1
theorem rle_count : ∀ (l : List Int) (p : Int × Nat), p ∈ rle l → p.2 ≤ l.length
  | [], p, hp => by simp [rle] at hp
  | a :: l, p, hp => by
    have ih := rle_count l
    rw [rle_cons] at hp
    unfold cnR at hp
    cases hr : rle l with
    | nil =>
      rw [hr] at hp
      simp at hp
      subst hp
      simp
    | cons q g =>
      obtain ⟨y, k⟩ := q
      rw [hr] at hp ih
      dsimp only at hp
      have h0 := ih (y, k) (by simp)
      dsimp only at h0
      simp only [List.length_cons]
      split at hp
      · rcases List.mem_cons.1 hp with e | e
        · subst e; dsimp only; omega
        · have := ih p (by simp [e]); omega
      · rcases List.mem_cons.1 hp with e | e
        · subst e; dsimp only; omega
        · have := ih p e; omega

/-- What Runs leaves. -/
def RunsPost (w : World) (ids : List Int) (e : Ending) (w' : World) : Prop :=
  ∃ v, e = .returned v ∧ w'.ownsRow w.heap.size 102 2 v (rle ids).length ((rle ids).flatMap gvR) ∧ Fr0 w w'

/-- The count behind the store. -/
theorem runs_put {w W : World} {g : List (Int × Nat)} {x : Int} {k : Nat} {b cap : Nat} (h : W.ownsRow w.heap.size 102 2 (.slice (some ⟨b, 0, none⟩) (g.length + 1) cap) (g ++ [(x, k)]).length ((g ++ [(x, k)]).flatMap gvR)) (m : Nat) :
    (W.setCell ⟨b, g.length * 2 + 1, none⟩ (.int .i64 (m : Nat))).ownsRow w.heap.size 102 2 (.slice (some ⟨b, 0, none⟩) (g.length + 1) cap) (g ++ [(x, m)]).length ((g ++ [(x, m)]).flatMap gvR) := by
  have hl : ∀ k : Nat, (g ++ [(x, k)]).length = g.length + 1 := fun k => by simp
  rw [hl] at h ⊢
  have := owns_set_own h (g.length * 2 + 1) (.int .i64 (m : Nat)) (by rw [gvR_len, hl]; omega)
  rw [gv_set] at this
  exact this

set_option maxRecDepth 100000 in
set_option maxHeartbeats 2000000 in
theorem lev_Runs {w : World} {a cap : Nat} {ids : List Int} (hI : RowC w a .i64 ids) (hn : ids.length ≤ 1000000) :
    Calls Tryd.prog 34 #[.slice (some ⟨a, 0, none⟩) ids.length cap] w (RunsPost w ids) := by
  have HI := Lib.hid hI
  clear hI
  go_enter Tryd.func34, Tryd.ntmps34
  go_wp2_with fail
  go_loopg [3, 8] ids.length (fun gk rv i wr => ∃ j : Nat, i = .int .i64 j ∧ j + gk = ids.length ∧ wr.ownsRow w.heap.size 102 2 rv (rle (ids.take j)).length ((rle (ids.take j)).flatMap gvR) ∧ Fr0 w wr)
  case atStart => exact ⟨0, rfl, by omega, World.ownsRow_nil _ _ _ _, Fr0.refl w⟩
  case round =>
    obtain ⟨j, rfl, hj, ho, hf⟩ := hrel
    have HF := Lib.hid hf
    have hbs : w.heap.size ≤ wr.heap.size := Fr.size hf
    by_cases hlt : j < ids.length
    · have hx := (HI.out.kept0 hf).2 j hlt
      have la := (HI.out.kept0 hf).1
      have hgl := rle_short (ids.take j)
      rw [List.length_take] at hgl
      have hgl2 : (rle (ids.take j)).length ≤ 1000000 := by omega
      have q1 : (0 : Int) ≤ (j : Int) := by omega
      have q2 : (j : Int) < (ids.length : Int) := by omega
      by_cases c0 : j = 0
      · subst c0
        have HN := Lib.hid (runs_new hlt (fun h => by omega))
        generalize rle (ids.take 0) = G at *
        obtain ⟨va, vc, rfl⟩ := owns_form ho
        have HO := Lib.hid ho
        generalize ids[0] = x at *
        clear ho hf
        go_wp2_with (at_builtin; refine wpList_pushG (vals := gvR) rt_group rfl _ _ rfl w.heap.size (.slice va G.length vc) G rfl HO.out hbs 102 (x, 0) #[.int .i64 x, .int .i64 0] rfl rfl (by simp [gvR, Value.oneCell']) 1 _ rfl rfl (by omega) hgl2 ?_; intro v' w4 hO4 hg4 hat4; obtain ⟨b, bc, hv', hbb, lb, bf, bcell, hbc1, hbc2⟩ := own_end hO4 (gvR_len _); subst hv'; have bcell1 := bcell 1 (.int .i64 0) rfl; have HO4 := Lib.hid hO4; have HF4 := Lib.hid (Fr.grown (HF.out.alloc _) hg4 (fun k hk hlt => by have := (HO.out.lt k hk).1; omega)); clear hO4 hg4 hat4 bcell hbc1 hbc2)
        go_wp2_with fail
        go_roundg (gk - 1)
        case measure => omega
        case rel => exact ⟨0 + 1, by go_num, by omega, by rw [HN.out]; exact runs_put HO4.out 1, Fr0.setCell HF4.out _ _ (by dsimp only; omega)⟩
      · have q3 : ((j : Int) == 0) = false := beq_eq_false_iff_ne.2 (by omega)
        obtain ⟨i, rfl⟩ : ∃ i, j = i + 1 := ⟨j - 1, by omega⟩
        have hi : i < ids.length := by omega
        have hy := (HI.out.kept0 hf).2 i hi
        have q4 : (0 : Int) ≤ (i : Int) := by omega
        have q5 : (i : Int) < (ids.length : Int) := by omega
        by_cases c1 : ids[i] = ids[i + 1]
        · obtain ⟨g, k, h1, h2⟩ := runs_same hlt (by omega) (by simpa using c1)
          rw [h1] at ho hgl2
          have hk := rle_count (ids.take (i + 1)) (ids[i + 1], k) (by rw [h1]; simp)
          rw [List.length_take] at hk
          have hk2 : k ≤ 1000000 := by dsimp only at hk; omega
          rw [c1] at hy
          have HN := Lib.hid h2
          generalize ids[i + 1] = x at *
          obtain ⟨b, bc, hv', hbb, lb, bf, bcell, hbc1, hbc2⟩ := own_end ho (gvR_len _)
          have hgl3 : g.length ≤ 1000000 := by simp at hgl2; omega
          subst hv'
          have bcell1 := bcell 1 (.int .i64 k) rfl
          have HO4 := Lib.hid ho
          clear ho hf bcell hbc2 h1 h2
          go_wp2_with fail
          go_roundg (gk - 1)
          case measure => omega
          case rel => exact ⟨i + 1 + 1, by go_num, by omega, by rw [HN.out]; exact runs_put HO4.out (k + 1), Fr0.setCell HF.out _ _ (by dsimp only; omega)⟩
        · have HN := Lib.hid (runs_new hlt (fun h => by simpa using c1))
          have q6 : (ids[i] != ids[i + 1]) = true := by simp [c1]
          generalize rle (ids.take (i + 1)) = G at *
          obtain ⟨va, vc, rfl⟩ := owns_form ho
          have HO := Lib.hid ho
          generalize ids[i + 1] = x at *
          generalize ids[i] = y at *
          clear ho hf
          go_wp2_with (at_builtin; refine wpList_pushG (vals := gvR) rt_group rfl _ _ rfl w.heap.size (.slice va G.length vc) G rfl HO.out hbs 102 (x, 0) #[.int .i64 x, .int .i64 0] rfl rfl (by simp [gvR, Value.oneCell']) 1 _ rfl rfl (by omega) hgl2 ?_; intro v' w4 hO4 hg4 hat4; obtain ⟨b, bc, hv', hbb, lb, bf, bcell, hbc1, hbc2⟩ := own_end hO4 (gvR_len _); subst hv'; have bcell1 := bcell 1 (.int .i64 0) rfl; have HO4 := Lib.hid hO4; have HF4 := Lib.hid (Fr.grown (HF.out.alloc _) hg4 (fun k hk hlt => by have := (HO.out.lt k hk).1; omega)); clear hO4 hg4 hat4 bcell hbc1 hbc2)
          go_wp2_with fail
          go_roundg (gk - 1)
          case measure => omega
          case rel => exact ⟨i + 1 + 1, by go_num, by omega, by rw [HN.out]; exact runs_put HO4.out 1, Fr0.setCell HF4.out _ _ (by dsimp only; omega)⟩
    · obtain rfl : j = ids.length := by omega
      rw [List.take_of_length_le (Nat.le_refl _)] at ho
      have HO := Lib.hid ho
      have q3 : decide ((ids.length : Int) < (ids.length : Int)) = false := decide_eq_false (by omega)
      clear ho hf
      go_wp2_with fail
      go_ret
      exact ⟨_, rfl, HO.out, HF.out⟩

end Go.Proofs.YtodmpcnpedpheaaDoor

/- The walk of levels.Stretches. -/
set_option linter.unusedSimpArgs false
set_option linter.unusedVariables false
namespace Go.Proofs.YtodmpcnpedpheaaDoor
open Go.RowKit

def svR (p : Nat × Nat) : List Value := [.int .i64 (p.1 : Nat), .int .i64 (p.2 : Nat)]
theorem svR_len (g : List (Nat × Nat)) : (g.flatMap svR).length = g.length * 2 := flat_len svR 2 g (fun _ _ => rfl)

/-- The pairs of stretches. -/
def sumS (S : List (Nat × Nat)) : List Nat := S.flatMap fun p => strP p.1 p.2

/-- What the loop of Stretches has: up to i. -/
structure StI (keys : List Int) (S : List (Nat × Nat)) (fr i : Nat) : Prop where
  sum : sumS S ++ grd 122 fr (keys.drop fr) = grd 122 0 keys
  le : fr ≤ i
  eq : ∀ k, fr ≤ k → k ≤ i → k < keys.length → keys.getD k 0 = keys.getD fr 0
  rng : ∀ p ∈ S, p.1 + p.2 ≤ keys.length
  few : S.length ≤ i

theorem StI.start (keys : List Int) : StI keys [] 0 0 := ⟨rfl, Nat.le_refl _, fun k h1 h2 _ => by rw [show k = 0 by omega], fun p h => by simp at h, Nat.le_refl _⟩

theorem StI.go {keys : List Int} {S : List (Nat × Nat)} {fr i : Nat} (h : StI keys S fr i) (hi : i + 1 < keys.length) (he : keys.getD (i + 1) 0 = keys.getD i 0) : StI keys S fr (i + 1) :=
  ⟨h.sum, by have := h.le; omega, fun k h1 h2 h3 => by
    by_cases c : k = i + 1
    · rw [c, he]; exact h.eq i h.le (Nat.le_refl _) (by omega)
    · exact h.eq k h1 (by omega) h3, h.rng, by have := h.few; omega⟩

theorem drop_same (keys : List Int) : ∀ (m fr : Nat), fr + m ≤ keys.length → (∀ k, fr ≤ k → k < fr + m → keys.getD k 0 = keys.getD fr 0) → keys.drop fr = List.replicate m (keys.getD fr 0) ++ keys.drop (fr + m)
  | 0, fr, _, _ => by simp
  | m + 1, fr, h, he => by
    have ih := drop_same keys m fr (by omega) (fun k h1 h2 => he k h1 (by omega))
    have hd : keys.drop (fr + m) = keys.getD (fr + m) 0 :: keys.drop (fr + m + 1) := by
      rw [List.getD_eq_getElem?_getD, List.getElem?_eq_getElem (by omega : fr + m < keys.length)]
      exact List.drop_eq_getElem_cons (by omega)
    rw [ih, hd, he (fr + m) (by omega) (by omega), List.replicate_succ', List.append_assoc]
    rfl

theorem StI.cut {keys : List Int} {S : List (Nat × Nat)} {fr i : Nat} (h : StI keys S fr i) (hi : i < keys.length) (he : i + 1 < keys.length → keys.getD (i + 1) 0 ≠ keys.getD i 0) :
    strP fr (i + 1 - fr) ++ grd 122 (i + 1) (keys.drop (i + 1)) = grd 122 fr (keys.drop fr) := by
  have hl := h.le
  have e := drop_same keys (i + 1 - fr) fr (by omega) (fun k h1 h2 => h.eq k h1 (by omega) (by omega))
  rw [show fr + (i + 1 - fr) = i + 1 by omega] at e
  rw [e, grd_stretch, show fr + (i + 1 - fr) = i + 1 by omega]
  intro y s hy hxy
  have hlt : i + 1 < keys.length := by
    have := congrArg List.length hy
    rw [List.length_drop] at this
    simp only [List.length_cons] at this
    omega
  apply he hlt
  have h1 : keys.getD (i + 1) 0 = y := by
    have := congrArg (fun l => l[0]?) hy
    simp only [List.getElem?_drop, Nat.add_zero, List.getElem?_cons_zero] at this
    rw [List.getD_eq_getElem?_getD, this]
    rfl
  rw [h1, ← hxy]
  exact (h.eq i hl (Nat.le_refl _) hi).symm

theorem StI.add {keys : List Int} {S : List (Nat × Nat)} {fr i : Nat} (h : StI keys S fr i) (hi : i < keys.length) (he : i + 1 < keys.length → keys.getD (i + 1) 0 ≠ keys.getD i 0) : StI keys (S ++ [(fr, i + 1 - fr)]) (i + 1) (i + 1) := by
  have hl := h.le
  refine ⟨?_, Nat.le_refl _, fun k h1 h2 _ => by rw [show k = i + 1 by omega], fun p hp => ?_, by have := h.few; simp; omega⟩
  · rw [← h.sum, ← h.cut hi he]
    unfold sumS
    simp
  · rcases List.mem_append.1 hp with hp | hp
    · exact h.rng p hp
    · simp at hp; subst hp; dsimp only; omega

theorem StI.skip {keys : List Int} {S : List (Nat × Nat)} {fr i : Nat} (h : StI keys S fr i) (hi : i < keys.length) (he : i + 1 < keys.length → keys.getD (i + 1) 0 ≠ keys.getD i 0) (h1 : i + 1 - fr ≤ 1) : StI keys S (i + 1) (i + 1) := by
  have hl := h.le
  have e := h.cut hi he
  have e1 : strP fr (i + 1 - fr) = [] := by rw [show i + 1 - fr = 1 by omega]; rfl
  rw [e1, List.nil_append] at e
  exact ⟨by rw [← h.sum, ← e], Nat.le_refl _, fun k h1 h2 _ => by rw [show k = i + 1 by omega], h.rng, by have := h.few; omega⟩

theorem StI.done {keys : List Int} {S : List (Nat × Nat)} {fr i : Nat} (h : StI keys S fr i) (hi : fr = keys.length) : sumS S = grd 122 0 keys := by
  have := h.sum
  rw [hi, List.drop_length, grd_nil, List.append_nil] at this
  exact this

/-- What Stretches leaves. -/
def StrPost (w : World) (keys : List Int) (e : Ending) (w' : World) : Prop :=
  ∃ S v, e = .returned v ∧ w'.ownsRow w.heap.size 130 2 v S.length (S.flatMap svR) ∧ sumS S = grd 122 0 keys ∧ (∀ p ∈ S, p.1 + p.2 ≤ keys.length) ∧ S.length ≤ keys.length ∧ Fr0 w w'

set_option maxRecDepth 100000 in
set_option maxHeartbeats 2000000 in
theorem lev_Stretches {w : World} {a cap : Nat} {keys : List Int} (hI : RowC w a .u64 keys) (hn : keys.length ≤ 1000000) :
    Calls Tryd.prog 53 #[.slice (some ⟨a, 0, none⟩) keys.length cap] w (StrPost w keys) := by
  have HI := Lib.hid hI
  clear hI
  go_enter Tryd.func53, Tryd.ntmps53
  go_wp2_with fail
  go_loopg [3, 4, 9] keys.length (fun gk rv fv i wr => ∃ (j fr : Nat) (S : List (Nat × Nat)), i = .int .i64 j ∧ fv = .int .i64 fr ∧ j + gk = keys.length ∧ StI keys S fr j ∧ (j = keys.length → fr = keys.length) ∧ wr.ownsRow w.heap.size 130 2 rv S.length (S.flatMap svR) ∧ Fr0 w wr)
  case atStart => exact ⟨0, 0, [], rfl, rfl, by omega, StI.start keys, fun h => h, World.ownsRow_nil _ _ _ _, Fr0.refl w⟩
  case round =>
    obtain ⟨j, fr, S, rfl, rfl, hj, hst, hfin, ho, hf⟩ := hrel
    have HF := Lib.hid hf
    have hbs : w.heap.size ≤ wr.heap.size := Fr.size hf
    have hle := hst.le
    have hfew := hst.few
    have HST := Lib.hid hst
    obtain ⟨va, vc, rfl⟩ := owns_form ho
    have HO := Lib.hid ho
    by_cases hlt : j < keys.length
    · have hx := (HI.out.kept0 hf).2 j hlt
      have la := (HI.out.kept0 hf).1
      have q1 : (0 : Int) ≤ (j : Int) := by omega
      have q2 : (j : Int) < (keys.length : Int) := by omega
      have hS2 : S.length ≤ 1000000 := by omega
      have ex : keys.getD j 0 = keys[j] := by rw [List.getD_eq_getElem?_getD, List.getElem?_eq_getElem hlt]; rfl
      have HEX := Lib.hid ex
      have HF0K : Hid (∀ (nq : Nat), wr.ownsRow w.heap.size 130 2 (.slice va S.length vc) S.length (S.flatMap svR) → (wr.drewN nq).ownsRow w.heap.size 130 2 (.slice va S.length vc) S.length (S.flatMap svR)) := fun nq h => ((Fr0.refl wr).drewN nq).owns h
      clear hst ho hf ex
      by_cases h1 : j + 1 < keys.length
      · have hy := (HI.out.kept0 HF.out).2 (j + 1) h1
        have ey : keys.getD (j + 1) 0 = keys[j + 1] := by rw [List.getD_eq_getElem?_getD, List.getElem?_eq_getElem h1]; rfl
        have q3 : (0 : Int) ≤ (j : Int) + 1 := by omega
        have q4 : (j : Int) + 1 < (keys.length : Int) := by omega
        have q5 : decide ((j : Int) + 1 < (keys.length : Int)) = true := decide_eq_true (by omega)
        by_cases he : keys[j + 1] = keys[j]
        · have HG := Lib.hid (HST.out.go h1 (by rw [ey, HEX.out]; exact he))
          rw [he] at hy
          generalize keys[j] = x at *
          clear ey he
          go_wp2_with fail
          go_quiet (fail)
          go_wp2_with fail
          go_roundg (gk - 1)
          case measure => omega
          case rel => exact ⟨j + 1, fr, S, by go_num, rfl, by omega, HG.out, fun h => by omega, HO.out, HF.out.drewN _⟩
        · have HE : Hid (j + 1 < keys.length → keys.getD (j + 1) 0 ≠ keys.getD j 0) := fun _ => by rw [ey, HEX.out]; exact he
          have q6 : (keys[j + 1] == keys[j]) = false := beq_eq_false_iff_ne.2 he
          generalize keys[j] = x at *
          generalize keys[j + 1] = y at *
          clear ey he
          obtain ⟨m, hm⟩ : ∃ m : Nat, j + 1 = fr + m := ⟨j + 1 - fr, by omega⟩
          have hme : j + 1 - fr = m := by omega
          have hmq : (j : Int) + 1 - (fr : Int) = (m : Int) := by omega
          have HME := Lib.hid hme
          clear hm hme
          by_cases hm1 : 1 < m
          · have q7 : decide (1 < (m : Int)) = true := decide_eq_true (by omega)
            have HA := Lib.hid (HST.out.add hlt HE.out)
            rw [HME.out] at HA
            go_wp2_with fail
            go_quiet (fail)
            go_wp2_with (at_builtin; refine wpList_pushG (vals := svR) rt_span rfl _ _ rfl w.heap.size (.slice va S.length vc) S rfl (HF0K.out _ HO.out) (by simpa using hbs) 130 (fr, m) #[.int .i64 (fr : Nat), .int .i64 (m : Nat)] rfl rfl (by simp [svR, Value.oneCell']) 1 _ rfl rfl (by omega) hS2 ?_; intro v' w4 hO4 hg4 hat4; have HO4 := Lib.hid hO4; have HF4 := Lib.hid (Fr.grown ((HF.out.drewN _).alloc _) hg4 (fun k hk hlt => by have := (HO.out.lt k hk).1; omega)); clear hO4 hg4 hat4)
            go_roundg (gk - 1)
            case measure => omega
            case rel => exact ⟨j + 1, j + 1, S ++ [(fr, m)], by go_num, by go_num, by omega, HA.out, fun h => h, HO4.out, HF4.out⟩
          · have q7 : decide (1 < (m : Int)) = false := decide_eq_false (by omega)
            have HA := Lib.hid (HST.out.skip hlt HE.out (by have := HME.out; omega))
            go_wp2_with fail
            go_quiet (fail)
            go_wp2_with fail
            go_roundg (gk - 1)
            case measure => omega
            case rel => exact ⟨j + 1, j + 1, S, by go_num, by go_num, by omega, HA.out, fun h => h, HO.out, HF.out.drewN _⟩
      · have q5 : decide ((j : Int) + 1 < (keys.length : Int)) = false := decide_eq_false (by omega)
        have HE : Hid (j + 1 < keys.length → keys.getD (j + 1) 0 ≠ keys.getD j 0) := fun h => absurd h h1
        generalize keys[j] = x at *
        obtain ⟨m, hm⟩ : ∃ m : Nat, j + 1 = fr + m := ⟨j + 1 - fr, by omega⟩
        have hme : j + 1 - fr = m := by omega
        have hmq : (j : Int) + 1 - (fr : Int) = (m : Int) := by omega
        have HME := Lib.hid hme
        clear hm hme
        by_cases hm1 : 1 < m
        · have q7 : decide (1 < (m : Int)) = true := decide_eq_true (by omega)
          have HA := Lib.hid (HST.out.add hlt HE.out)
          rw [HME.out] at HA
          go_wp2_with fail
          go_quiet (fail)
          go_wp2_with (at_builtin; refine wpList_pushG (vals := svR) rt_span rfl _ _ rfl w.heap.size (.slice va S.length vc) S rfl (HF0K.out _ HO.out) (by simpa using hbs) 130 (fr, m) #[.int .i64 (fr : Nat), .int .i64 (m : Nat)] rfl rfl (by simp [svR, Value.oneCell']) 1 _ rfl rfl (by omega) hS2 ?_; intro v' w4 hO4 hg4 hat4; have HO4 := Lib.hid hO4; have HF4 := Lib.hid (Fr.grown ((HF.out.drewN _).alloc _) hg4 (fun k hk hlt => by have := (HO.out.lt k hk).1; omega)); clear hO4 hg4 hat4)
          go_roundg (gk - 1)
          case measure => omega
          case rel => exact ⟨j + 1, j + 1, S ++ [(fr, m)], by go_num, by go_num, by omega, HA.out, fun h => h, HO4.out, HF4.out⟩
        · have q7 : decide (1 < (m : Int)) = false := decide_eq_false (by omega)
          have HA := Lib.hid (HST.out.skip hlt HE.out (by have := HME.out; omega))
          go_wp2_with fail
          go_quiet (fail)
          go_wp2_with fail
          go_roundg (gk - 1)
          case measure => omega
          case rel => exact ⟨j + 1, j + 1, S, by go_num, by go_num, by omega, HA.out, fun h => h, HO.out, HF.out.drewN _⟩
    · obtain rfl : j = keys.length := by omega
      have hfe := hfin rfl
      have HSUM := Lib.hid (hst.done hfe)
      have HRNG := Lib.hid hst.rng
      have q3 : decide ((keys.length : Int) < (keys.length : Int)) = false := decide_eq_false (by omega)
      clear ho hf hst
      go_wp2_with fail
      go_ret
      exact ⟨S, _, rfl, HO.out, HSUM.out, HRNG.out, hfew, HF.out⟩

end Go.Proofs.YtodmpcnpedpheaaDoor

/- The walks of keys.Key, Level, New and of signature.New, Store, Keys, Top. -/
import Derived.Test.YtgldjpldldknoaaGreatDoorRKw4
import Derived.Test.YtgldjpldldknoaaGreatDoorRBof0
import Derived.Test.YtgldjpldldknoaaGreatDoorRSt5
import Derived.Deep.LoopGhost
import Derived.Laws.CopyRow
import Derived.Test.YtgldjpldldknoaaGreatDoorRKy0
set_option linter.unusedSimpArgs false
set_option linter.unusedVariables false
namespace Go.Proofs.YtgldjpldldknoaaGreatDoor
open Go.RowKit
def KyPost (B : Nat) (w : World) (pp tp p mb : Nat) (most : Int) (L : List Ent) (v : Value) (e : Ending) (w' : World) : Prop :=
 ∃ T', e = .returned v ∧ Pq B w' pp tp p mb most L T' ∧ Kx B mb w w'
set_option maxRecDepth 100000 in
set_option maxHeartbeats 400000 in
theorem keys_Key {B : Nat} {w : World} {pp tp p mb : Nat} {most : Int} {L : List Ent} {T : List KRow} (h : Pq B w pp tp p mb most L T) (id : Int) (hk : isKnown L id) (h0 : id ≠ 0) :
    Calls Tryz.prog 103 #[.pointer (some ⟨tp, 0, none⟩), .int .i64 id] w (KyPost B w pp tp p mb most L (.tuple #[.int .u64 (kkey L id), .nilIface])) := by
 have C1 := Lib.hid (keys_row h id hk h0)
 obtain ⟨k3, hk3⟩ : ∃ z, kkey L id = z := ⟨_, rfl⟩
 obtain ⟨k4, hk4⟩ : ∃ z, klev L id = z := ⟨_, rfl⟩
 have HK3 := Lib.hid hk3
 have HK4 := Lib.hid hk4
 rw [hk3]
 clear hk3 hk4 h hk h0
 go_enter Tryz.func103, Tryz.ntmps103
 go_wp2_with fail
 refine C1.out.mono ?_
 rintro e w1 ⟨T1, rfl, hp, hx⟩
 rw [HK3.out, HK4.out]
 have hp2 := Lib.hid (hp.kept0 ((Fr0.refl w1).alloc (.cells #[.int .u64 k3, .int .i64 k4, .bool true] 208 (0, 0))))
 have hx2 := Lib.hid (Ks.alloc hx (.cells #[.int .u64 k3, .int .i64 k4, .bool true] 208 (0, 0)))
 clear hp hx C1
 go_wp2_with fail
 go_ret2
 exact ⟨T1, rfl, hp2.out, hx2.out⟩
set_option maxRecDepth 100000 in
set_option maxHeartbeats 400000 in
theorem keys_New (p : Nat) (w : World) :
    Calls Tryz.prog 34 #[.pointer (some ⟨p, 0, none⟩)] w fun e w' => e = .returned (.pointer (some ⟨w.heap.size, 0, none⟩)) ∧ w' = w.alloc (.cells #[.pointer (some ⟨p, 0, none⟩), .slice none 0 0] 130 (0, 0)) := by
 go_enter Tryz.func34, Tryz.ntmps34
 go_wp2_with fail
 go_ret
 exact ⟨rfl, rfl⟩
set_option maxRecDepth 100000 in
set_option maxHeartbeats 400000 in
theorem sig_New {B : Nat} {w : World} {p mb : Nat} {most : Int} {L : List Ent} (hS : Sto B w p mb most L) (hO : SOk L) (hD : DOk L) (hU : Uq L) (hb : B ≤ w.heap.size) (hdeb : Deb B w) (hbig : L.length ≤ 1000000) :
    Calls Tryz.prog 17 #[.pointer (some ⟨p, 0, none⟩)] w fun e w' => ∃ pp tp, e = .returned (.pointer (some ⟨pp, 0, none⟩)) ∧ Pq B w' pp tp p mb most L [] ∧ Fr0 w w' := by
 have C1 := Lib.hid (keys_New p w)
 obtain ⟨W1, hW1⟩ : ∃ W, w.alloc (.cells #[.pointer (some ⟨p, 0, none⟩), .slice none 0 0] 130 (0, 0)) = W := ⟨_, rfl⟩
 have F1 : Fr0 w W1 := by rw [← hW1]; exact (Fr0.refl w).alloc _
 have b1 : W1.heap[w.heap.size]? = some (.cells #[.pointer (some ⟨p, 0, none⟩), .slice none 0 0] 130 (0, 0)) := by rw [← hW1]; exact alloc_at _ _ _ rfl
 rw [hW1] at C1
 have HX : Hid (∀ W, W = W1.alloc (.cells #[.pointer (some ⟨p, 0, none⟩), .pointer (some ⟨w.heap.size, 0, none⟩)] 107 (0, 0)) → Pq B W W1.heap.size w.heap.size p mb most L [] ∧ Fr0 w W) := by
  intro W hW
  subst hW
  have F2 := F1.alloc (.cells #[.pointer (some ⟨p, 0, none⟩), .pointer (some ⟨w.heap.size, 0, none⟩)] 107 (0, 0))
  refine ⟨⟨hS.kept0 F2, alloc_at _ _ _ rfl, Nat.le_trans hb (Fr.size F1), ⟨hb, _, ((Fr0.refl W1).alloc _).kept b1, World.ownsRow_nil _ _ _ _⟩, TabOk.nil L, Nat.zero_le _, hO, hD, hU, Nat.le_trans hb (Fr.size F2), hdeb.low (fun k h1 h2 => F2.block k h2 id), hbig⟩, F2⟩
 clear hW1 F1 b1 hS hO hD hU hb hdeb
 go_enter Tryz.func17, Tryz.ntmps17
 go_wp2_with fail
 refine C1.out.mono ?_
 rintro e w1 ⟨rfl, rfl⟩
 go_wp2_with fail
 go_ret
 exact ⟨_, _, rfl, HX.out _ rfl⟩
set_option maxRecDepth 100000 in
set_option maxHeartbeats 400000 in
theorem sig_Store {B : Nat} {w : World} {pp tp p mb : Nat} {most : Int} {L : List Ent} {T : List KRow} (h : Pq B w pp tp p mb most L T) :
    Calls Tryz.prog 36 #[.pointer (some ⟨pp, 0, none⟩)] w fun e w' => e = .returned (.pointer (some ⟨p, 0, none⟩)) ∧ w = w' := by
 obtain ⟨c0, c1, lp⟩ := h.front
 clear h
 go_enter Tryz.func36, Tryz.ntmps36
 go_wp2_with fail
 go_ret
 exact ⟨rfl, rfl⟩
def topV (L : List Ent) (id : Int) : Value := if id = 0 then .tuple #[.int .i64 0, .nilIface] else if 0 ≤ klev L id then .tuple #[.int .i64 (klev L id), .nilIface] else .tuple #[.int .i64 0, errV 4]
end Go.Proofs.YtgldjpldldknoaaGreatDoor
/- Levels: runs from the left; rows that can be read (plain). -/
set_option linter.unusedSimpArgs false
set_option linter.unusedVariables false
namespace Go.Proofs.YtgldjpldldknoaaGreatDoor
open Go.RowKit
def snR (g : List (Int × Nat)) (x : Int) : List (Int × Nat) :=
 match g.getLast? with
 | some (y, k) => if y = x then g.dropLast ++ [(y, k + 1)] else g ++ [(x, 1)]
 | none => [(x, 1)]
theorem snR_cons (p q : Int × Nat) (g : List (Int × Nat)) (x : Int) : snR (p :: q :: g) x = p :: snR (q :: g) x := by
 unfold snR
 rw [List.getLast?_cons_cons]
 cases h : (q :: g).getLast? with
 | none => simp at h
 | some r =>
  obtain ⟨y, k⟩ := r
  dsimp only
  split
  · simp [List.dropLast]
  · simp
def cnR (a : Int) (g : List (Int × Nat)) : List (Int × Nat) :=
 match g with
 | [] => [(a, 1)]
 | (y, k) :: g => if a = y then (y, k + 1) :: g else (a, 1) :: (y, k) :: g
theorem rle_cons (a : Int) (l : List Int) : rle (a :: l) = cnR a (rle l) := by
 rw [rle]
 unfold cnR
 cases h : rle l with
 | nil => rfl
 | cons p g => rfl
theorem cnR_snR (a x : Int) : ∀ (p : Int × Nat) (g : List (Int × Nat)), cnR a (snR (p :: g) x) = snR (cnR a (p :: g)) x
 | (y, k), [] => by
  by_cases c : y = x
  · subst c
    by_cases d : a = y
    · subst d; simp [snR, cnR]
    · simp [snR, cnR, d]
  · by_cases d : a = y
    · subst d; simp [snR, cnR, c]
    · simp [snR, cnR, c, d]
 | (y, k), q :: g => by
  rw [snR_cons]
  by_cases d : a = y
  · subst d
    show (if a = a then (a, k + 1) :: snR (q :: g) x else _) = snR (if a = a then (a, k + 1) :: q :: g else _) x
    rw [if_pos rfl, if_pos rfl, snR_cons]
  · show (if a = y then _ else (a, 1) :: (y, k) :: snR (q :: g) x) = snR (if a = y then _ else (a, 1) :: (y, k) :: q :: g) x
    rw [if_neg d, if_neg d, snR_cons, snR_cons]
theorem rle_ne : ∀ (a : Int) (l : List Int), rle (a :: l) ≠ [] := by
 intro a l h
 rw [rle_cons] at h
 unfold cnR at h
 split at h
 · cases h
 · split at h <;> cases h
theorem rle_snoc (x : Int) : ∀ l : List Int, rle (l ++ [x]) = snR (rle l) x
 | [] => by simp [rle, snR]
 | [a] => by
  show rle (a :: [x]) = _
  rw [rle_cons]
  simp only [rle, cnR, snR, List.getLast?_singleton]
  by_cases c : a = x
  · subst c; simp
  · simp [c]
 | a :: b :: l => by
  show rle (a :: ((b :: l) ++ [x])) = _
  rw [rle_cons, rle_snoc x (b :: l), rle_cons a (b :: l)]
  cases h : rle (b :: l) with
  | nil => exact absurd h (rle_ne b l)
  | cons p g => exact cnR_snR a x p g
theorem rle_last (x : Int) (l : List Int) : ∃ g k, rle (l ++ [x]) = g ++ [(x, k)] := by
 rw [rle_snoc]
 unfold snR
 split
 · rename_i y k h
   split
   · rename_i e
     subst e
     exact ⟨_, _, rfl⟩
   · exact ⟨_, _, rfl⟩
 · exact ⟨[], _, rfl⟩
theorem rle_go {x : Int} {l : List Int} {g : List (Int × Nat)} {k : Nat} (h : rle l = g ++ [(x, k)]) : rle (l ++ [x]) = g ++ [(x, k + 1)] := by
 rw [rle_snoc, h]
 unfold snR
 simp
theorem rle_new {x y : Int} {l : List Int} {g : List (Int × Nat)} {k : Nat} (h : rle l = g ++ [(y, k)]) (hne : y ≠ x) : rle (l ++ [x]) = (g ++ [(y, k)]) ++ [(x, 1)] := by
 rw [rle_snoc, h]
 unfold snR
 simp [hne]
def RowC (w : World) (g : Nat) (k : IntKind) (xs : List Int) : Prop := g < w.heap.size ∧ ∀ (i : Nat) (h : i < xs.length), w.cell? ⟨g, i, none⟩ = some (.int k xs[i])
theorem RowC.kept0 {w w' : World} {g : Nat} {k : IntKind} {xs : List Int} (h : RowC w g k xs) (hf : Fr0 w w') : RowC w' g k xs :=
 ⟨Nat.lt_of_lt_of_le h.1 (Fr.size hf), fun i hi => (hf.cell g i h.1).trans (h.2 i hi)⟩
theorem RowC.of {w w' : World} {g : Nat} {k : IntKind} {xs : List Int} (h : RowC w g k xs) (hs : w.heap.size ≤ w'.heap.size) (hg : w'.heap[g]? = w.heap[g]?) : RowC w' g k xs :=
 ⟨Nat.lt_of_lt_of_le h.1 hs, fun i hi => (World.cell?_of_block hg).trans (h.2 i hi)⟩
theorem rowC_of_own {w : World} {base : Nat} {T : TypeId} {k : IntKind} {xs : List Int} {v : Value} (h : w.ownsRow base T 1 v xs.length (xs.map fun x => Value.int k x)) (h0 : xs ≠ []) : ∃ g cap, v = .slice (some ⟨g, 0, none⟩) xs.length cap ∧ base ≤ g ∧ RowC w g k xs ∧ xs.length ≤ cap ∧ cap ≤ maxLen := by
 have h' := h
 rcases h.2 with ⟨_, e⟩ | ⟨g, cap, cur, e, hb, hg, h1, h2, _⟩
 · exact absurd (List.eq_nil_of_length_eq_zero e) h0
 · subst e
   refine ⟨g, cap, rfl, hb, ⟨lt_of_block hg, fun i hi => ?_⟩, h1, h2⟩
   have hc := h'.cells (g := g) rfl i (.int k xs[i]) (by simp [hi])
   simpa only [Addr.add_lit, Nat.zero_add] using hc
def gvR (p : Int × Nat) : List Value := [.int .i64 p.1, .int .i64 p.2]
theorem gvR_len (g : List (Int × Nat)) : (g.flatMap gvR).length = g.length * 2 := flat_len gvR 2 g (fun _ _ => rfl)
theorem info_group : (Tryz.prog.info? 189).map (fun i => (i.zero, i.size, i.bytes)) = some (some (.agg #[.int .i64 0, .int .i64 0]), 2, 16) := by kernel_rfl
theorem rt_group : RT 186 189 2 16 := by
 obtain ⟨i, h1, h2, h3, h4⟩ := info_parts info_group
 exact ⟨by omega, i, _, Tryz.underlying186, h1, h2, h3, h4, rfl⟩
theorem info_span : (Tryz.prog.info? 216).map (fun i => (i.zero, i.size, i.bytes)) = some (some (.agg #[.int .i64 0, .int .i64 0]), 2, 16) := by kernel_rfl
theorem rt_span : RT 213 216 2 16 := by
 obtain ⟨i, h1, h2, h3, h4⟩ := info_parts info_span
 exact ⟨by omega, i, _, Tryz.underlying213, h1, h2, h3, h4, rfl⟩
theorem gv_set (g : List (Int × Nat)) (x : Int) (k m : Nat) : ((g ++ [(x, k)]).flatMap gvR).set (g.length * 2 + 1) (.int .i64 (m : Nat)) = (g ++ [(x, m)]).flatMap gvR := by
 have hl := gvR_len g
 rw [List.flatMap_append, List.flatMap_append, List.set_append_right _ _ (by omega), hl]
 simp [gvR]
theorem own_end {α : Type} {vals : α → List Value} {size : Nat} {w : World} {base : Nat} {T : TypeId} {v : Value} {g : List α} {y : α} (h : w.ownsRow base T size v (g ++ [y]).length ((g ++ [y]).flatMap vals)) (hv : (g.flatMap vals).length = g.length * size) :
    ∃ b cap, v = .slice (some ⟨b, 0, none⟩) (g.length + 1) cap ∧ base ≤ b ∧ b < w.heap.size ∧ (∀ o, w.frozen? ⟨b, o, none⟩ = false) ∧ (∀ j u, (vals y)[j]? = some u → w.cell? ⟨b, g.length * size + j, none⟩ = some u) ∧ g.length + 1 ≤ cap ∧ cap ≤ maxLen := by
 have hl : (g ++ [y]).length = g.length + 1 := by simp
 have h' := h
 rcases h.2 with ⟨_, e⟩ | ⟨b, cap, cur, e, hb, hg, h1, h2, _⟩
 · rw [hl] at e; omega
 · rw [hl] at e h1
   subst e
   refine ⟨b, cap, rfl, hb, lt_of_block hg, fun o => frozen_of_block hg o, fun j u hj => ?_, h1, h2⟩
   have hc := h'.cells (g := b) rfl (g.length * size + j) u (by
    rw [List.flatMap_append, List.getElem?_append_right (by omega), hv, Nat.add_sub_cancel_left]
    simpa using hj)
   simpa only [Addr.add_lit, Nat.zero_add] using hc
end Go.Proofs.YtgldjpldldknoaaGreatDoor
/- The walk of levels.Runs. -/
set_option linter.unusedSimpArgs false
set_option linter.unusedVariables false
namespace Go.Proofs.YtgldjpldldknoaaGreatDoor
open Go.RowKit
theorem take_one (ids : List Int) (j : Nat) (h : j < ids.length) : ids.take (j + 1) = ids.take j ++ [ids[j]] := List.take_succ_eq_append_getElem h
theorem runs_new {ids : List Int} {j : Nat} (h : j < ids.length) (hn : ∀ h1 : 1 ≤ j, ids[j - 1]'(by omega) ≠ ids[j]) : rle (ids.take (j + 1)) = rle (ids.take j) ++ [(ids[j], 1)] := by
 rw [take_one ids j h]
 by_cases c : j = 0
 · subst c
   rw [List.take_zero]
   rfl
 · obtain ⟨i, rfl⟩ : ∃ i, j = i + 1 := ⟨j - 1, by omega⟩
   have hi : i < ids.length := by omega
   have e : ids.take (i + 1) = ids.take i ++ [ids[i]] := take_one ids i hi
   obtain ⟨g, k, hg⟩ := rle_last ids[i] (ids.take i)
   rw [← e] at hg
   rw [rle_new hg (by simpa using hn (by omega)), hg]
theorem runs_same {ids : List Int} {j : Nat} (h : j < ids.length) (h1 : 1 ≤ j) (he : ids[j - 1]'(by omega) = ids[j]) : ∃ g k, rle (ids.take j) = g ++ [(ids[j], k)] ∧ rle (ids.take (j + 1)) = g ++ [(ids[j], k + 1)] := by
 rw [take_one ids j h]
 obtain ⟨i, rfl⟩ : ∃ i, j = i + 1 := ⟨j - 1, by omega⟩
 have hi : i < ids.length := by omega
 have e : ids.take (i + 1) = ids.take i ++ [ids[i]] := take_one ids i hi
 obtain ⟨g, k, hg⟩ := rle_last ids[i] (ids.take i)
 rw [← e] at hg
 have he' : ids[i] = ids[i + 1] := by simpa using he
 rw [he'] at hg
 exact ⟨g, k, hg, rle_go hg⟩
theorem rle_short (l : List Int) : (rle l).length ≤ l.length := (rle_ok l).2.2.1
theorem rle_count : ∀ (l : List Int) (p : Int × Nat), p ∈ rle l → p.2 ≤ l.length
 | [], p, hp => by simp [rle] at hp
 | a :: l, p, hp => by
  have ih := rle_count l
  rw [rle_cons] at hp
  unfold cnR at hp
  cases hr : rle l with
  | nil =>
   rw [hr] at hp
   simp at hp
   subst hp
   simp
  | cons q g =>
   obtain ⟨y, k⟩ := q
   rw [hr] at hp ih
   dsimp only at hp
   have h0 := ih (y, k) (by simp)
   dsimp only at h0
   simp only [List.length_cons]
   split at hp
   · rcases List.mem_cons.1 hp with e | e
     · subst e; dsimp only; omega
     · have := ih p (by simp [e]); omega
   · rcases List.mem_cons.1 hp with e | e
     · subst e; dsimp only; omega
     · have := ih p e; omega
def RunsPost (w : World) (ids : List Int) (e : Ending) (w' : World) : Prop :=
 ∃ v, e = .returned v ∧ w'.ownsRow w.heap.size 189 2 v (rle ids).length ((rle ids).flatMap gvR) ∧ Fr0 w w'
theorem runs_put {w W : World} {g : List (Int × Nat)} {x : Int} {k : Nat} {b cap : Nat} (h : W.ownsRow w.heap.size 189 2 (.slice (some ⟨b, 0, none⟩) (g.length + 1) cap) (g ++ [(x, k)]).length ((g ++ [(x, k)]).flatMap gvR)) (m : Nat) :
    (W.setCell ⟨b, g.length * 2 + 1, none⟩ (.int .i64 (m : Nat))).ownsRow w.heap.size 189 2 (.slice (some ⟨b, 0, none⟩) (g.length + 1) cap) (g ++ [(x, m)]).length ((g ++ [(x, m)]).flatMap gvR) := by
 have hl : ∀ k : Nat, (g ++ [(x, k)]).length = g.length + 1 := fun k => by simp
 rw [hl] at h ⊢
 have := owns_set_own h (g.length * 2 + 1) (.int .i64 (m : Nat)) (by rw [gvR_len, hl]; omega)
 rw [gv_set] at this
 exact this
set_option maxRecDepth 100000 in
set_option maxHeartbeats 2000000 in
theorem lev_Runs {w : World} {a cap : Nat} {ids : List Int} (hI : RowC w a .i64 ids) (hn : ids.length ≤ 1000000) :
    Calls Tryz.prog 102 #[.slice (some ⟨a, 0, none⟩) ids.length cap] w (RunsPost w ids) := by
 have HI := Lib.hid hI
 clear hI
 go_enter Tryz.func102, Tryz.ntmps102
 go_wp2_with fail
 go_loopg [3, 8] ids.length (fun gk rv i wr => ∃ j : Nat, i = .int .i64 j ∧ j + gk = ids.length ∧ wr.ownsRow w.heap.size 189 2 rv (rle (ids.take j)).length ((rle (ids.take j)).flatMap gvR) ∧ Fr0 w wr)
 case atStart => exact ⟨0, rfl, by omega, World.ownsRow_nil _ _ _ _, Fr0.refl w⟩
 case round =>
  obtain ⟨j, rfl, hj, ho, hf⟩ := hrel
  have HF := Lib.hid hf
  have hbs : w.heap.size ≤ wr.heap.size := Fr.size hf
  by_cases hlt : j < ids.length
  · have hx := (HI.out.kept0 hf).2 j hlt
    have la := (HI.out.kept0 hf).1
    have hgl := rle_short (ids.take j)
    rw [List.length_take] at hgl
    have hgl2 : (rle (ids.take j)).length ≤ 1000000 := by omega
    have q1 : (0 : Int) ≤ (j : Int) := by omega
    have q2 : (j : Int) < (ids.length : Int) := by omega
    by_cases c0 : j = 0
    · subst c0
      have HN := Lib.hid (runs_new hlt (fun h => by omega))
      generalize rle (ids.take 0) = G at *
      obtain ⟨va, vc, rfl⟩ := owns_form ho
      have HO := Lib.hid ho
      generalize ids[0] = x at *
      clear ho hf
      go_wp2_with (at_builtin; refine wpList_pushG (vals := gvR) rt_group rfl _ _ rfl w.heap.size (.slice va G.length vc) G rfl HO.out hbs 189 (x, 0) #[.int .i64 x, .int .i64 0] rfl rfl (by simp [gvR, Value.oneCell']) 1 _ rfl rfl (by omega) hgl2 ?_; intro v' w4 hO4 hg4 hat4; obtain ⟨b, bc, hv', hbb, lb, bf, bcell, hbc1, hbc2⟩ := own_end hO4 (gvR_len _); subst hv'; have bcell1 := bcell 1 (.int .i64 0) rfl; have HO4 := Lib.hid hO4; have HF4 := Lib.hid (Fr.grown (HF.out.alloc _) hg4 (fun k hk hlt => by have := (HO.out.lt k hk).1; omega)); clear hO4 hg4 hat4 bcell hbc1 hbc2)
      go_wp2_with fail
      go_roundg (gk - 1)
      case measure => omega
      case rel => exact ⟨0 + 1, by go_num, by omega, by rw [HN.out]; exact runs_put HO4.out 1, Fr0.setCell HF4.out _ _ (by dsimp only; omega)⟩
    · have q3 : ((j : Int) == 0) = false := beq_eq_false_iff_ne.2 (by omega)
      obtain ⟨i, rfl⟩ : ∃ i, j = i + 1 := ⟨j - 1, by omega⟩
      have hi : i < ids.length := by omega
      have hy := (HI.out.kept0 hf).2 i hi
      have q4 : (0 : Int) ≤ (i : Int) := by omega
      have q5 : (i : Int) < (ids.length : Int) := by omega
      by_cases c1 : ids[i] = ids[i + 1]
      · obtain ⟨g, k, h1, h2⟩ := runs_same hlt (by omega) (by simpa using c1)
        rw [h1] at ho hgl2
        have hk := rle_count (ids.take (i + 1)) (ids[i + 1], k) (by rw [h1]; simp)
        rw [List.length_take] at hk
        have hk2 : k ≤ 1000000 := by dsimp only at hk; omega
        rw [c1] at hy
        have HN := Lib.hid h2
        generalize ids[i + 1] = x at *
        obtain ⟨b, bc, hv', hbb, lb, bf, bcell, hbc1, hbc2⟩ := own_end ho (gvR_len _)
        have hgl3 : g.length ≤ 1000000 := by simp at hgl2; omega
        subst hv'
        have bcell1 := bcell 1 (.int .i64 k) rfl
        have HO4 := Lib.hid ho
        clear ho hf bcell hbc2 h1 h2
        go_wp2_with fail
        go_roundg (gk - 1)
        case measure => omega
        case rel => exact ⟨i + 1 + 1, by go_num, by omega, by rw [HN.out]; exact runs_put HO4.out (k + 1), Fr0.setCell HF.out _ _ (by dsimp only; omega)⟩
      · have HN := Lib.hid (runs_new hlt (fun h => by simpa using c1))
        have q6 : (ids[i] != ids[i + 1]) = true := by simp [c1]
        generalize rle (ids.take (i + 1)) = G at *
        obtain ⟨va, vc, rfl⟩ := owns_form ho
        have HO := Lib.hid ho
        generalize ids[i + 1] = x at *
        generalize ids[i] = y at *
        clear ho hf
        go_wp2_with (at_builtin; refine wpList_pushG (vals := gvR) rt_group rfl _ _ rfl w.heap.size (.slice va G.length vc) G rfl HO.out hbs 189 (x, 0) #[.int .i64 x, .int .i64 0] rfl rfl (by simp [gvR, Value.oneCell']) 1 _ rfl rfl (by omega) hgl2 ?_; intro v' w4 hO4 hg4 hat4; obtain ⟨b, bc, hv', hbb, lb, bf, bcell, hbc1, hbc2⟩ := own_end hO4 (gvR_len _); subst hv'; have bcell1 := bcell 1 (.int .i64 0) rfl; have HO4 := Lib.hid hO4; have HF4 := Lib.hid (Fr.grown (HF.out.alloc _) hg4 (fun k hk hlt => by have := (HO.out.lt k hk).1; omega)); clear hO4 hg4 hat4 bcell hbc1 hbc2)
        go_wp2_with fail
        go_roundg (gk - 1)
        case measure => omega
        case rel => exact ⟨i + 1 + 1, by go_num, by omega, by rw [HN.out]; exact runs_put HO4.out 1, Fr0.setCell HF4.out _ _ (by dsimp only; omega)⟩
  · obtain rfl : j = ids.length := by omega
    rw [List.take_of_length_le (Nat.le_refl _)] at ho
    have HO := Lib.hid ho
    have q3 : decide ((ids.length : Int) < (ids.length : Int)) = false := decide_eq_false (by omega)
    clear ho hf
    go_wp2_with fail
    go_ret
    exact ⟨_, rfl, HO.out, HF.out⟩
end Go.Proofs.YtgldjpldldknoaaGreatDoor
/- The walk of levels.Stretches. -/
set_option linter.unusedSimpArgs false
set_option linter.unusedVariables false
namespace Go.Proofs.YtgldjpldldknoaaGreatDoor
open Go.RowKit
def svR (p : Nat × Nat) : List Value := [.int .i64 (p.1 : Nat), .int .i64 (p.2 : Nat)]
def sumS (S : List (Nat × Nat)) : List Nat := S.flatMap fun p => strP p.1 p.2
structure StI (keys : List Int) (S : List (Nat × Nat)) (fr i : Nat) : Prop where
 sum : sumS S ++ grd 122 fr (keys.drop fr) = grd 122 0 keys
 le : fr ≤ i
 eq : ∀ k, fr ≤ k → k ≤ i → k < keys.length → keys.getD k 0 = keys.getD fr 0
 rng : ∀ p ∈ S, p.1 + p.2 ≤ keys.length
 few : S.length ≤ i
theorem StI.start (keys : List Int) : StI keys [] 0 0 := ⟨rfl, Nat.le_refl _, fun k h1 h2 _ => by rw [show k = 0 by omega], fun p h => by simp at h, Nat.le_refl _⟩
theorem StI.go {keys : List Int} {S : List (Nat × Nat)} {fr i : Nat} (h : StI keys S fr i) (hi : i + 1 < keys.length) (he : keys.getD (i + 1) 0 = keys.getD i 0) : StI keys S fr (i + 1) :=
 ⟨h.sum, by have := h.le; omega, fun k h1 h2 h3 => by
  by_cases c : k = i + 1
  · rw [c, he]; exact h.eq i h.le (Nat.le_refl _) (by omega)
  · exact h.eq k h1 (by omega) h3, h.rng, by have := h.few; omega⟩
theorem drop_same (keys : List Int) : ∀ (m fr : Nat), fr + m ≤ keys.length → (∀ k, fr ≤ k → k < fr + m → keys.getD k 0 = keys.getD fr 0) → keys.drop fr = List.replicate m (keys.getD fr 0) ++ keys.drop (fr + m)
 | 0, fr, _, _ => by simp
 | m + 1, fr, h, he => by
  have ih := drop_same keys m fr (by omega) (fun k h1 h2 => he k h1 (by omega))
  have hd : keys.drop (fr + m) = keys.getD (fr + m) 0 :: keys.drop (fr + m + 1) := by
   rw [List.getD_eq_getElem?_getD, List.getElem?_eq_getElem (by omega : fr + m < keys.length)]
   exact List.drop_eq_getElem_cons (by omega)
  rw [ih, hd, he (fr + m) (by omega) (by omega), List.replicate_succ', List.append_assoc]
  rfl
theorem StI.cut {keys : List Int} {S : List (Nat × Nat)} {fr i : Nat} (h : StI keys S fr i) (hi : i < keys.length) (he : i + 1 < keys.length → keys.getD (i + 1) 0 ≠ keys.getD i 0) :
    strP fr (i + 1 - fr) ++ grd 122 (i + 1) (keys.drop (i + 1)) = grd 122 fr (keys.drop fr) := by
 have hl := h.le
 have e := drop_same keys (i + 1 - fr) fr (by omega) (fun k h1 h2 => h.eq k h1 (by omega) (by omega))
 rw [show fr + (i + 1 - fr) = i + 1 by omega] at e
 rw [e, grd_stretch, show fr + (i + 1 - fr) = i + 1 by omega]
 intro y s hy hxy
 have hlt : i + 1 < keys.length := by
  have := congrArg List.length hy
  rw [List.length_drop] at this
  simp only [List.length_cons] at this
  omega
 apply he hlt
 have h1 : keys.getD (i + 1) 0 = y := by
  have := congrArg (fun l => l[0]?) hy
  simp only [List.getElem?_drop, Nat.add_zero, List.getElem?_cons_zero] at this
  rw [List.getD_eq_getElem?_getD, this]
  rfl
 rw [h1, ← hxy]
 exact (h.eq i hl (Nat.le_refl _) hi).symm
theorem StI.add {keys : List Int} {S : List (Nat × Nat)} {fr i : Nat} (h : StI keys S fr i) (hi : i < keys.length) (he : i + 1 < keys.length → keys.getD (i + 1) 0 ≠ keys.getD i 0) : StI keys (S ++ [(fr, i + 1 - fr)]) (i + 1) (i + 1) := by
 have hl := h.le
 refine ⟨?_, Nat.le_refl _, fun k h1 h2 _ => by rw [show k = i + 1 by omega], fun p hp => ?_, by have := h.few; simp; omega⟩
 · rw [← h.sum, ← h.cut hi he]
   unfold sumS
   simp
 · rcases List.mem_append.1 hp with hp | hp
   · exact h.rng p hp
   · simp at hp; subst hp; dsimp only; omega
theorem StI.skip {keys : List Int} {S : List (Nat × Nat)} {fr i : Nat} (h : StI keys S fr i) (hi : i < keys.length) (he : i + 1 < keys.length → keys.getD (i + 1) 0 ≠ keys.getD i 0) (h1 : i + 1 - fr ≤ 1) : StI keys S (i + 1) (i + 1) := by
 have hl := h.le
 have e := h.cut hi he
 have e1 : strP fr (i + 1 - fr) = [] := by rw [show i + 1 - fr = 1 by omega]; rfl
 rw [e1, List.nil_append] at e
 exact ⟨by rw [← h.sum, ← e], Nat.le_refl _, fun k h1 h2 _ => by rw [show k = i + 1 by omega], h.rng, by have := h.few; omega⟩
theorem StI.done {keys : List Int} {S : List (Nat × Nat)} {fr i : Nat} (h : StI keys S fr i) (hi : fr = keys.length) : sumS S = grd 122 0 keys := by
 have := h.sum
 rw [hi, List.drop_length, grd_nil, List.append_nil] at this
 exact this
def StrPost (w : World) (keys : List Int) (e : Ending) (w' : World) : Prop :=
 ∃ S v, e = .returned v ∧ w'.ownsRow w.heap.size 216 2 v S.length (S.flatMap svR) ∧ sumS S = grd 122 0 keys ∧ (∀ p ∈ S, p.1 + p.2 ≤ keys.length) ∧ S.length ≤ keys.length ∧ Fr0 w w'
set_option maxRecDepth 100000 in
set_option maxHeartbeats 2000000 in
theorem lev_Stretches {w : World} {a cap : Nat} {keys : List Int} (hI : RowC w a .u64 keys) (hn : keys.length ≤ 1000000) :
    Calls Tryz.prog 116 #[.slice (some ⟨a, 0, none⟩) keys.length cap] w (StrPost w keys) := by
 have HI := Lib.hid hI
 clear hI
 go_enter Tryz.func116, Tryz.ntmps116
 go_wp2_with fail
 go_loopg [3, 4, 9] keys.length (fun gk rv fv i wr => ∃ (j fr : Nat) (S : List (Nat × Nat)), i = .int .i64 j ∧ fv = .int .i64 fr ∧ j + gk = keys.length ∧ StI keys S fr j ∧ (j = keys.length → fr = keys.length) ∧ wr.ownsRow w.heap.size 216 2 rv S.length (S.flatMap svR) ∧ Fr0 w wr)
 case atStart => exact ⟨0, 0, [], rfl, rfl, by omega, StI.start keys, fun h => h, World.ownsRow_nil _ _ _ _, Fr0.refl w⟩
 case round =>
  obtain ⟨j, fr, S, rfl, rfl, hj, hst, hfin, ho, hf⟩ := hrel
  have HF := Lib.hid hf
  have hbs : w.heap.size ≤ wr.heap.size := Fr.size hf
  have hle := hst.le
  have hfew := hst.few
  have HST := Lib.hid hst
  obtain ⟨va, vc, rfl⟩ := owns_form ho
  have HO := Lib.hid ho
  by_cases hlt : j < keys.length
  · have hx := (HI.out.kept0 hf).2 j hlt
    have la := (HI.out.kept0 hf).1
    have q1 : (0 : Int) ≤ (j : Int) := by omega
    have q2 : (j : Int) < (keys.length : Int) := by omega
    have hS2 : S.length ≤ 1000000 := by omega
    have ex : keys.getD j 0 = keys[j] := by rw [List.getD_eq_getElem?_getD, List.getElem?_eq_getElem hlt]; rfl
    have HEX := Lib.hid ex
    have HF0K : Hid (∀ (nq : Nat), wr.ownsRow w.heap.size 216 2 (.slice va S.length vc) S.length (S.flatMap svR) → (wr.drewN nq).ownsRow w.heap.size 216 2 (.slice va S.length vc) S.length (S.flatMap svR)) := fun nq h => ((Fr0.refl wr).drewN nq).owns h
    clear hst ho hf ex
    by_cases h1 : j + 1 < keys.length
    · have hy := (HI.out.kept0 HF.out).2 (j + 1) h1
      have ey : keys.getD (j + 1) 0 = keys[j + 1] := by rw [List.getD_eq_getElem?_getD, List.getElem?_eq_getElem h1]; rfl
      have q3 : (0 : Int) ≤ (j : Int) + 1 := by omega
      have q4 : (j : Int) + 1 < (keys.length : Int) := by omega
      have q5 : decide ((j : Int) + 1 < (keys.length : Int)) = true := decide_eq_true (by omega)
      by_cases he : keys[j + 1] = keys[j]
      · have HG := Lib.hid (HST.out.go h1 (by rw [ey, HEX.out]; exact he))
        rw [he] at hy
        generalize keys[j] = x at *
        clear ey he
        go_wp2_with fail
        go_quiet (fail)
        go_wp2_with fail
        go_roundg (gk - 1)
        case measure => omega
        case rel => exact ⟨j + 1, fr, S, by go_num, rfl, by omega, HG.out, fun h => by omega, HO.out, HF.out.drewN _⟩
      · have HE : Hid (j + 1 < keys.length → keys.getD (j + 1) 0 ≠ keys.getD j 0) := fun _ => by rw [ey, HEX.out]; exact he
        have q6 : (keys[j + 1] == keys[j]) = false := beq_eq_false_iff_ne.2 he
        generalize keys[j] = x at *
        generalize keys[j + 1] = y at *
        clear ey he
        obtain ⟨m, hm⟩ : ∃ m : Nat, j + 1 = fr + m := ⟨j + 1 - fr, by omega⟩
        have hme : j + 1 - fr = m := by omega
        have hmq : (j : Int) + 1 - (fr : Int) = (m : Int) := by omega
        have HME := Lib.hid hme
        clear hm hme
        by_cases hm1 : 1 < m
        · have q7 : decide (1 < (m : Int)) = true := decide_eq_true (by omega)
          have HA := Lib.hid (HST.out.add hlt HE.out)
          rw [HME.out] at HA
          go_wp2_with fail
          go_quiet (fail)
          go_wp2_with (at_builtin; refine wpList_pushG (vals := svR) rt_span rfl _ _ rfl w.heap.size (.slice va S.length vc) S rfl (HF0K.out _ HO.out) (by simpa using hbs) 216 (fr, m) #[.int .i64 (fr : Nat), .int .i64 (m : Nat)] rfl rfl (by simp [svR, Value.oneCell']) 1 _ rfl rfl (by omega) hS2 ?_; intro v' w4 hO4 hg4 hat4; have HO4 := Lib.hid hO4; have HF4 := Lib.hid (Fr.grown ((HF.out.drewN _).alloc _) hg4 (fun k hk hlt => by have := (HO.out.lt k hk).1; omega)); clear hO4 hg4 hat4)
          go_roundg (gk - 1)
          case measure => omega
          case rel => exact ⟨j + 1, j + 1, S ++ [(fr, m)], by go_num, by go_num, by omega, HA.out, fun h => h, HO4.out, HF4.out⟩
        · have q7 : decide (1 < (m : Int)) = false := decide_eq_false (by omega)
          have HA := Lib.hid (HST.out.skip hlt HE.out (by have := HME.out; omega))
          go_wp2_with fail
          go_quiet (fail)
          go_wp2_with fail
          go_roundg (gk - 1)
          case measure => omega
          case rel => exact ⟨j + 1, j + 1, S, by go_num, by go_num, by omega, HA.out, fun h => h, HO.out, HF.out.drewN _⟩
    · have q5 : decide ((j : Int) + 1 < (keys.length : Int)) = false := decide_eq_false (by omega)
      have HE : Hid (j + 1 < keys.length → keys.getD (j + 1) 0 ≠ keys.getD j 0) := fun h => absurd h h1
      generalize keys[j] = x at *
      obtain ⟨m, hm⟩ : ∃ m : Nat, j + 1 = fr + m := ⟨j + 1 - fr, by omega⟩
      have hme : j + 1 - fr = m := by omega
      have hmq : (j : Int) + 1 - (fr : Int) = (m : Int) := by omega
      have HME := Lib.hid hme
      clear hm hme
      by_cases hm1 : 1 < m
      · have q7 : decide (1 < (m : Int)) = true := decide_eq_true (by omega)
        have HA := Lib.hid (HST.out.add hlt HE.out)
        rw [HME.out] at HA
        go_wp2_with fail
        go_quiet (fail)
        go_wp2_with (at_builtin; refine wpList_pushG (vals := svR) rt_span rfl _ _ rfl w.heap.size (.slice va S.length vc) S rfl (HF0K.out _ HO.out) (by simpa using hbs) 216 (fr, m) #[.int .i64 (fr : Nat), .int .i64 (m : Nat)] rfl rfl (by simp [svR, Value.oneCell']) 1 _ rfl rfl (by omega) hS2 ?_; intro v' w4 hO4 hg4 hat4; have HO4 := Lib.hid hO4; have HF4 := Lib.hid (Fr.grown ((HF.out.drewN _).alloc _) hg4 (fun k hk hlt => by have := (HO.out.lt k hk).1; omega)); clear hO4 hg4 hat4)
        go_roundg (gk - 1)
        case measure => omega
        case rel => exact ⟨j + 1, j + 1, S ++ [(fr, m)], by go_num, by go_num, by omega, HA.out, fun h => h, HO4.out, HF4.out⟩
      · have q7 : decide (1 < (m : Int)) = false := decide_eq_false (by omega)
        have HA := Lib.hid (HST.out.skip hlt HE.out (by have := HME.out; omega))
        go_wp2_with fail
        go_quiet (fail)
        go_wp2_with fail
        go_roundg (gk - 1)
        case measure => omega
        case rel => exact ⟨j + 1, j + 1, S, by go_num, by go_num, by omega, HA.out, fun h => h, HO.out, HF.out.drewN _⟩
  · obtain rfl : j = keys.length := by omega
    have hfe := hfin rfl
    have HSUM := Lib.hid (hst.done hfe)
    have HRNG := Lib.hid hst.rng
    have q3 : decide ((keys.length : Int) < (keys.length : Int)) = false := decide_eq_false (by omega)
    clear ho hf hst
    go_wp2_with fail
    go_ret
    exact ⟨S, _, rfl, HO.out, HSUM.out, HRNG.out, hfew, HF.out⟩
end Go.Proofs.YtgldjpldldknoaaGreatDoor
/- The walk of levels.Pairs. -/
set_option linter.unusedSimpArgs false
set_option linter.unusedVariables false
namespace Go.Proofs.YtgldjpldldknoaaGreatDoor
open Go.RowKit
theorem grd_len (c : Nat) : ∀ (n : Nat) (l : List Int) (i : Nat), l.length ≤ n → (grd c i l).length ≤ l.length := by
 intro n
 induction n with
 | zero =>
  intro l i h
  have : l = [] := List.eq_nil_of_length_eq_zero (by omega)
  subst this
  rw [grd_nil]; exact Nat.le_refl _
 | succ n ih =>
  intro l i h
  match l, h with
  | [], h => rw [grd_nil]; exact Nat.le_refl _
  | [x], h => rw [grd_one]; simp
  | x :: y :: t, h =>
   cases hf : fitB c x y with
   | true =>
    rw [grd_fit hf]
    have := ih t (i + 2) (by simp at h; omega)
    simp only [List.length_cons]
    omega
   | false =>
    rw [grd_not hf]
    have := ih (y :: t) (i + 1) (by simp at h ⊢; omega)
    simp only [List.length_cons] at this ⊢
    omega
def toI (l : List Nat) : List Int := l.map fun (i : Nat) => (i : Int)
theorem toI_snoc (l : List Nat) (j : Nat) : toI (l ++ [j]) = toI l ++ [(j : Int)] := by simp [toI]
theorem toI_len (l : List Nat) : (toI l).length = l.length := by simp [toI]
def PrsPost (w : World) (c : Nat) (keys : List Int) (e : Ending) (w' : World) : Prop := ∃ v, e = .returned v ∧ OwnI 3 w w' v (toI (grd c 0 keys))
theorem prs_step {c : Nat} {keys : List Int} {R : List Nat} {j : Nat} (hc : c ≠ 122) (h : R ++ grd c j (keys.drop j) = grd c 0 keys) (hj : j + 1 < keys.length) :
    (R ++ if fitB c keys[j] keys[j + 1] = true then [j] else []) ++ grd c (j + 1) (keys.drop (j + 1)) = grd c 0 keys := by
 have e1 : keys.drop j = keys[j] :: keys.drop (j + 1) := List.drop_eq_getElem_cons (by omega)
 have e2 : keys.drop (j + 1) = keys[j + 1] :: keys.drop (j + 1 + 1) := List.drop_eq_getElem_cons hj
 rw [← h, e1, e2, grd_step hc, List.append_assoc]
theorem prs_end {c : Nat} {keys : List Int} {R : List Nat} {j : Nat} (h : R ++ grd c j (keys.drop j) = grd c 0 keys) (hj : ¬ j + 1 < keys.length) : R = grd c 0 keys := by
 rw [← h]
 have hl : (keys.drop j).length ≤ 1 := by rw [List.length_drop]; omega
 match hd : keys.drop j, hl with
 | [], _ => rw [grd_nil, List.append_nil]
 | [x], _ => rw [grd_one, List.append_nil]
 | x :: y :: t, hl => simp at hl
theorem prs_bits {c x y : Nat} (hc : c ≠ 122) (hx : x < 2305843009213693951) (hy : y < 2305843009213693951) :
    ∃ b1 b2 : Bool, (bits .and .u64 ((x : Int) / 2 ^ (c / 2)) 1 == (c : Int) % 2) = b1 ∧ (bits .and .u64 ((y : Int) / 2 ^ (c / 2)) 1 != (c : Int) % 2) = b2 ∧ fitB c (x : Int) (y : Int) = (b1 && b2) := by
 refine ⟨_, _, rfl, rfl, ?_⟩
 rw [bit1 (by omega), bit1 (by omega)]
 unfold fitB
 rw [if_neg hc]
 simp only [Int.toNat_natCast]
 rcases Nat.mod_two_eq_zero_or_one c with e | e
 · have e' : (c : Int) % 2 = 0 := by omega
   rw [e, e']
   cases x.testBit (c / 2) <;> cases y.testBit (c / 2) <;> rfl
 · have e' : (c : Int) % 2 = 1 := by omega
   rw [e, e']
   cases x.testBit (c / 2) <;> cases y.testBit (c / 2) <;> rfl
set_option maxRecDepth 100000 in
set_option maxHeartbeats 4000000 in
theorem lev_Pairs_plain {w : World} {a cap : Nat} {keys : List Int} (hI : RowC w a .u64 keys) (hn : keys.length ≤ 1000000) (hr : ∀ x ∈ keys, 0 ≤ x ∧ x < 2305843009213693951) (l : Int) (h2 : 2 ≤ l) (he : l % 2 = 0) (h1 : l ≤ 1099511627776) (c : Nat) (hc : (l / 2 - 1).toNat % 123 = c) (hc2 : c ≠ 122) :
    Calls Tryz.prog 104 #[.slice (some ⟨a, 0, none⟩) keys.length cap, .int .i64 l] w (PrsPost w c keys) := by
 have HI := Lib.hid hI
 have HR := Lib.hid hr
 have CN := Lib.hid (fun W => keys_Number l h2 he h1 W)
 have HV : Hid (numV ((l / 2 - 1).toNat % 123) = .tuple #[.int .i64 ((c : Int) / 2), .int .u64 ((c : Int) % 2), .bool false]) := by show _ = _; rw [hc]; unfold numV; rw [if_neg hc2]
 rw [HV.out] at CN
 have hc3 : c ≤ 122 := by omega
 have q1 : decide (l < 2) = false := decide_eq_false (by omega)
 have q2 : (l.tmod 2 != 0) = false := by rw [Int.tmod_eq_emod_of_nonneg (by omega), he]; rfl
 clear hI hr HV hc h2 he
 go_enter Tryz.func104, Tryz.ntmps104
 go_wp2_with fail
 refine (CN.out _).mono ?_
 rintro e w1 ⟨rfl, hf1⟩
 have HF1 := Lib.hid hf1
 clear hf1 CN
 go_wp2_with fail
 go_loopg [5, 12] keys.length (fun gk rv i wr => ∃ (j : Nat) (R : List Nat), i = .int .i64 j ∧ j + gk = keys.length ∧ OwnI 3 w wr rv (toI R) ∧ R ++ grd c j (keys.drop j) = grd c 0 keys)
 case atStart => exact ⟨0, [], rfl, by omega, OwnI.nil _ HF1.out, rfl⟩
 case round =>
  obtain ⟨j, R, rfl, hj, ho, hs⟩ := hrel
  have HS := Lib.hid hs
  have hRl : R.length ≤ keys.length := by
   have := congrArg List.length hs
   rw [List.length_append] at this
   have := grd_len c _ keys 0 (Nat.le_refl _)
   omega
  obtain ⟨va, vc, rfl⟩ := ho.form
  have HO := Lib.hid ho
  have hRl2 : (toI R).length ≤ 1000000 := by rw [toI_len]; omega
  have q3 : (0 : Int) ≤ (j : Int) := by omega
  clear hs
  by_cases hlt : j + 1 < keys.length
  · have hx := (HI.out.kept0 ho.fr).2 j (by omega)
    have hy := (HI.out.kept0 ho.fr).2 (j + 1) hlt
    have la := (HI.out.kept0 ho.fr).1
    have rx := HR.out keys[j] (List.getElem_mem _)
    have ry := HR.out keys[j + 1] (List.getElem_mem _)
    have q4 : (j : Int) < (keys.length : Int) := by omega
    have q5 : (j : Int) + 1 < (keys.length : Int) := by omega
    have q6 : (0 : Int) ≤ (j : Int) + 1 := by omega
    have HN := Lib.hid (prs_step hc2 HS.out hlt)
    generalize keys[j] = x at *
    generalize keys[j + 1] = y at *
    obtain ⟨xn, rfl⟩ := Int.eq_ofNat_of_zero_le rx.1
    obtain ⟨yn, rfl⟩ := Int.eq_ofNat_of_zero_le ry.1
    obtain ⟨b1, b2, e1, e2, e3⟩ := prs_bits (x := xn) (y := yn) hc2 (by omega) (by omega)
    rw [e3] at HN
    have hgk : gk ≠ 0 := by omega
    clear ho rx ry e3
    cases b1 with
    | true =>
     cases b2 with
     | true =>
      go_wp2_with (at_builtin; refine wpList_push rt_int rfl _ _ rfl _ _ rfl HO.out 3 (j : Int) 1 _ (by simp) rfl hRl2 ?_; intro v' w4 hO4 hg4 hat4)
      go_wp2_with fail
      go_roundg (gk - 1)
      case measure => omega
      case rel => exact ⟨j + 1, R ++ [j], by go_num, by omega, by rw [toI_snoc]; exact hO4, HN.out⟩
     | false =>
      go_wp2_with fail
      go_roundg (gk - 1)
      case measure => omega
      case rel => exact ⟨j + 1, R, by go_num, by omega, HO.out, by have := HN.out; simpa using this⟩
    | false =>
     go_wp2_with fail
     go_roundg (gk - 1)
     case measure => omega
     case rel => exact ⟨j + 1, R, by go_num, by omega, HO.out, by have := HN.out; simpa using this⟩
  · have HE := Lib.hid (prs_end HS.out hlt)
    have q4 : decide ((j : Int) + 1 < (keys.length : Int)) = false := decide_eq_false (by omega)
    clear ho
    go_wp2_with fail
    go_ret
    exact ⟨_, rfl, by rw [← HE.out]; exact HO.out⟩
theorem spans_at {w : World} {base : Nat} {v : Value} {S : List (Nat × Nat)} (h : w.ownsRow base 216 2 v S.length (S.flatMap svR)) (i : Nat) (hi : i < S.length) :
    ∃ b cap, v = .slice (some ⟨b, 0, none⟩) S.length cap ∧ b < w.heap.size ∧ w.cell? ⟨b, i * 2, none⟩ = some (.int .i64 (S[i].1 : Nat)) ∧ w.cell? ⟨b, i * 2 + 1, none⟩ = some (.int .i64 (S[i].2 : Nat)) := by
 obtain ⟨ra, cap, hv, hg⟩ := rg_of_own (B := base) (vals := svR) (fun x _ => rfl) h (by decide) (by decide)
 rcases h.2 with ⟨_, e⟩ | ⟨b, cap', cur, e, _⟩
 · omega
 · obtain ⟨b', off, h1, h2, _, h4⟩ := hg i hi
   rw [e] at hv
   simp only [Value.slice.injEq] at hv
   obtain ⟨hv1, _, rfl⟩ := hv
   rw [← hv1] at h1
   simp only [Option.some.injEq, Addr.mk.injEq, and_true] at h1
   obtain ⟨rfl, rfl⟩ := h1
   have c0 := h4 0 _ rfl
   have c1 := h4 1 _ rfl
   rw [Nat.zero_add] at c0 c1
   exact ⟨b, _, e, h2, c0, c1⟩
theorem strP_go {i n : Nat} (h : 1 < n) : strP i n = i :: strP (i + 2) (n - 2) := by
 obtain ⟨m, rfl⟩ : ∃ m, n = m + 2 := ⟨n - 2, by omega⟩
 rw [show m + 2 - 2 = m by omega]
 rfl
theorem strP_no {i n : Nat} (h : ¬ 1 < n) : strP i n = [] := by
 match n, h with
 | 0, _ => rfl
 | 1, _ => rfl
 | n + 2, h => omega
theorem OwnI.up {T : TypeId} {w0 w1 w : World} {v : Value} {xs : List Int} (h : OwnI T w1 w v xs) (hf : Fr0 w0 w1) : OwnI T w0 w v xs := by
 have hs := Fr.size hf
 refine ⟨⟨h.row.1, ?_⟩, hf.trans h.fr⟩
 rcases h.row.2 with e | ⟨g, cap, cur, e, hb, r⟩
 · exact .inl e
 · exact .inr ⟨g, cap, cur, e, by omega, r⟩
theorem OwnI.far {T : TypeId} {w0 W w4 : World} {v : Value} {xs : List Int} {o : Obj} {K : Nat} {cs : Array Value} {t : TypeId} {f : Nat × Nat} (h : OwnI T w0 W v xs) (hg : (W.alloc o).grownBy w4 v.ownBlock) (hK : W.heap[K]? = some (.cells cs t f)) (ht : t ≠ T) : w4.heap[K]? = some (.cells cs t f) := by
 have hl := lt_of_block hK
 rw [hg.block K (by simp; omega) (fun e => ?_)]
 · exact ((Fr0.refl W).alloc o).kept hK
 · obtain ⟨cur, hc⟩ := owns_block h.row e.symm
   rw [hK] at hc
   cases hc
   exact ht rfl
theorem cells2q {w : World} {K : Nat} {u v : Value} {t : TypeId} {f : Nat × Nat} (h : w.heap[K]? = some (.cells #[u, v] t f)) : w.cell? ⟨K, 0, none⟩ = some u ∧ w.cell? ⟨K, 1, none⟩ = some v ∧ K < w.heap.size :=
 ⟨by rw [cell_of_block h]; rfl, by rw [cell_of_block h]; rfl, lt_of_block h⟩
set_option maxRecDepth 100000 in
set_option maxHeartbeats 4000000 in
theorem lev_Pairs_tie {w : World} {a cap : Nat} {keys : List Int} (hI : RowC w a .u64 keys) (hn : keys.length ≤ 1000000) (l : Int) (h2 : 2 ≤ l) (he : l % 2 = 0) (h1 : l ≤ 1099511627776) (hc : (l / 2 - 1).toNat % 123 = 122) :
    Calls Tryz.prog 104 #[.slice (some ⟨a, 0, none⟩) keys.length cap, .int .i64 l] w (PrsPost w 122 keys) := by
 have CN := Lib.hid (fun W => keys_Number l h2 he h1 W)
 have HV : Hid (numV ((l / 2 - 1).toNat % 123) = .tuple #[.int .i64 0, .int .u64 0, .bool true]) := by show _ = _; rw [hc]; unfold numV; rw [if_pos rfl]
 rw [HV.out] at CN
 have CS := Lib.hid (fun W (hW : Fr0 w W) => lev_Stretches (cap := cap) (hI.kept0 hW) hn)
 have q1 : decide (l < 2) = false := decide_eq_false (by omega)
 have q2 : (l.tmod 2 != 0) = false := by rw [Int.tmod_eq_emod_of_nonneg (by omega), he]; rfl
 clear hI HV hc h2 he
 go_enter Tryz.func104, Tryz.ntmps104
 go_wp2_with fail
 refine (CN.out _).mono ?_
 rintro e w1 ⟨rfl, hf1⟩
 have CS1 := Lib.hid (CS.out _ hf1)
 clear CN CS
 go_wp2_with fail
 refine CS1.out.mono ?_
 rintro e w2 ⟨S, sv, rfl, hso, hsum, hrng, hsl, hf2⟩
 have HF2 := Lib.hid (hf1.trans hf2)
 have HSO := Lib.hid hso
 have HSUM := Lib.hid hsum
 have HRNG := Lib.hid hrng
 obtain ⟨sa, sc, rfl⟩ := owns_form hso
 have hRl0 := grd_len 122 _ keys 0 (Nat.le_refl _)
 clear CS1 hf1 hf2 hso hsum hrng
 go_wp2_with fail
 go_loopg [5, 30] S.length (fun gk rv i wr => ∃ (j : Nat) (R : List Nat), i = .int .i64 j ∧ j + gk = S.length ∧ OwnI 3 w2 wr rv (toI R) ∧ R ++ sumS (S.drop j) = grd 122 0 keys)
 case atStart => exact ⟨0, [], rfl, by omega, OwnI.nil _ (Fr0.refl w2), HSUM.out⟩
 case round =>
  obtain ⟨j, R, rfl, hj, ho, hs⟩ := hrel
  have HS := Lib.hid hs
  have q3 : (0 : Int) ≤ (j : Int) := by omega
  clear hs
  by_cases hlt : j < S.length
  · obtain ⟨b, bc, hv, lb, x0, x1⟩ := spans_at (ho.fr.owns HSO.out) j hlt
    simp only [Value.slice.injEq] at hv
    obtain ⟨rfl, _, rfl⟩ := hv
    have hrg := HRNG.out S[j] (List.getElem_mem _)
    have ed : S.drop j = S[j] :: S.drop (j + 1) := List.drop_eq_getElem_cons hlt
    have hs2 := HS.out
    rw [ed] at hs2
    have HSS : Hid (R ++ (strP S[j].1 S[j].2 ++ sumS (S.drop (j + 1))) = grd 122 0 keys) := hs2
    have q4 : (j : Int) < (S.length : Int) := by omega
    have hgk : gk ≠ 0 := by omega
    generalize S[j] = sp at *
    obtain ⟨f, n⟩ := sp
    dsimp only at x0 x1 hrg HSS
    have HOA := Lib.hid (ho.kept0 ((Fr0.refl wr).alloc (.cells #[.int .i64 (f : Nat), .int .i64 (n : Nat)] 216 (0, 0))))
    have hb10 := alloc_at wr (.cells #[.int .i64 (f : Nat), .int .i64 (n : Nat)] 216 (0, 0)) wr.heap.size rfl
    clear ho hs2 ed
    obtain ⟨G0, hG0⟩ : ∃ g, gk = g := ⟨_, rfl⟩
    go_wp2_with fail
    generalize wr.alloc (.cells #[.int .i64 (f : Nat), .int .i64 (n : Nat)] 216 (0, 0)) = W3 at *
    generalize wr.heap.size = K at *
    have HB10 := Lib.hid hb10
    clear hb10 x0 x1 lb
    go_loopg [5, 11] (n + 1) (fun gi rv i wx => ∃ (k : Nat) (Q : List Nat), i = .int .i64 k ∧ k + gi = n + 1 ∧ OwnI 3 w2 wx rv (toI Q) ∧ Q ++ strP (f + k) (n - k) = R ++ strP f n ∧ wx.heap[K]? = some (.cells #[.int .i64 (f : Nat), .int .i64 (n : Nat)] 216 (0, 0)))
    case atStart => exact ⟨0, R, rfl, by omega, HOA.out, rfl, HB10.out⟩
    case round =>
     clear HB10 HOA
     obtain ⟨k, Q, rfl, hk, ho, hq, hb⟩ := hrel
     obtain ⟨y0, y1, ly⟩ := cells2q hb
     have HQ := Lib.hid hq
     have hQl : Q.length ≤ keys.length := by
      have a1 := congrArg List.length hq
      have a2 := congrArg List.length HSS.out
      simp only [List.length_append] at a1 a2
      omega
     have hQl2 : (toI Q).length ≤ 1000000 := by rw [toI_len]; omega
     have q5 : (0 : Int) ≤ (k : Int) := by omega
     obtain ⟨va, vc, rfl⟩ := ho.form
     have HO := Lib.hid ho
     have HB := Lib.hid hb
     clear ho hb hq
     by_cases hkn : k + 1 < n
     · have q6 : decide ((k : Int) + 1 < (n : Int)) = true := decide_eq_true (by omega)
       have HN : Hid ((Q ++ [f + k]) ++ strP (f + (k + 2)) (n - (k + 2)) = R ++ strP f n) := by
        show _ = _
        have := HQ.out
        rw [strP_go (by omega)] at this
        rw [← this, show f + (k + 2) = f + k + 2 by omega, show n - (k + 2) = n - k - 2 by omega]
        simp
       go_wp2_with (at_builtin; refine wpList_push rt_int rfl _ _ rfl _ _ rfl HO.out 3 ((f : Int) + (k : Int)) 1 _ (by simp) rfl hQl2 ?_; intro v' w4 hO4 hg4 hat4; have HB4 := Lib.hid (HO.out.far hg4 HB.out (by decide)); clear hg4 hat4)
       go_wp2_with fail
       go_roundg (gk - 2)
       case measure => omega
       case rel => exact ⟨k + 2, Q ++ [f + k], by go_num, by omega, by rw [toI_snoc, Int.natCast_add]; exact hO4, HN.out, HB4.out⟩
     · have q6 : decide ((k : Int) + 1 < (n : Int)) = false := decide_eq_false (by omega)
       have HN : Hid (Q ++ sumS (S.drop (j + 1)) = grd 122 0 keys) := by
        show _ = _
        have := HQ.out
        rw [strP_no (by omega), List.append_nil] at this
        rw [this, List.append_assoc]
        exact HSS.out
       go_wp2_with fail
       go_roundg (G0 - 1)
       case measure => omega
       case rel => exact ⟨j + 1, Q, by go_num, by omega, HO.out, HN.out⟩
  · obtain rfl : j = S.length := by omega
    have HE : Hid (R = grd 122 0 keys) := by
     show _ = _
     have := HS.out
     rw [List.drop_length] at this
     rw [← this]
     show R = R ++ []
     simp
    have q4 : decide ((S.length : Int) < (S.length : Int)) = false := decide_eq_false (by omega)
    have HO := Lib.hid (ho.up HF2.out)
    clear ho
    go_wp2_with fail
    go_ret
    exact ⟨_, rfl, by rw [← HE.out]; exact HO.out⟩
theorem lev_Pairs {w : World} {a cap : Nat} {keys : List Int} (hI : RowC w a .u64 keys) (hn : keys.length ≤ 1000000) (hr : ∀ x ∈ keys, 0 ≤ x ∧ x < 2305843009213693951) (l : Int) (h2 : 2 ≤ l) (he : l % 2 = 0) (h1 : l ≤ 1099511627776) :
    Calls Tryz.prog 104 #[.slice (some ⟨a, 0, none⟩) keys.length cap, .int .i64 l] w (PrsPost w ((l / 2 - 1).toNat % 123) keys) := by
 by_cases hc : (l / 2 - 1).toNat % 123 = 122
 · rw [hc]; exact lev_Pairs_tie hI hn l h2 he h1 hc
 · exact lev_Pairs_plain hI hn hr l h2 he h1 _ rfl hc
end Go.Proofs.YtgldjpldldknoaaGreatDoor
/- Appending in place: a slice that is the front of a row the call owns. -/
set_option linter.unusedSimpArgs false
set_option linter.unusedVariables false
namespace Go.Proofs.YtgldjpldldknoaaGreatDoor
open Go.RowKit
def PreR (T : TypeId) (k : IntKind) (base : Nat) (w : World) (v : Value) (j : Nat) (xs : List Int) : Prop :=
 ∃ a cap, v = .slice a j cap ∧ j ≤ xs.length ∧ w.ownsRow base T 1 (.slice a xs.length cap) xs.length (xs.map fun x => Value.int k x)
theorem PreR.keep {T : TypeId} {k : IntKind} {base : Nat} {w w' : World} {v : Value} {j : Nat} {xs : List Int} (h : PreR T k base w v j xs) (hk : ∀ g cs t f, v.ownBlock = some g → w.heap[g]? = some (Obj.cells cs t f) → w'.heap[g]? = some (.cells cs t f)) : PreR T k base w' v j xs := by
 obtain ⟨a, cap, rfl, h1, h2⟩ := h
 refine ⟨a, cap, rfl, h1, h2.1, ?_⟩
 rcases h2.2 with e | ⟨g, c, cur, e, hb, hg, r⟩
 · exact .inl e
 · simp only [Value.slice.injEq] at e
   obtain ⟨rfl, _, rfl⟩ := e
   exact .inr ⟨g, cap, cur, rfl, hb, hk g _ _ _ rfl hg, r⟩
theorem PreR.kept0 {T : TypeId} {k : IntKind} {base : Nat} {w w' : World} {v : Value} {j : Nat} {xs : List Int} (h : PreR T k base w v j xs) (hf : Fr0 w w') : PreR T k base w' v j xs := h.keep (fun _ _ _ _ _ hg => hf.kept hg)
theorem PreR.blk {T : TypeId} {k : IntKind} {base : Nat} {w : World} {v : Value} {j : Nat} {xs : List Int} (h : PreR T k base w v j xs) {g : Nat} (hg : v.ownBlock = some g) : base ≤ g ∧ g < w.heap.size ∧ ∃ cur, w.heap[g]? = some (.cells cur T (0, 0)) := by
 obtain ⟨a, cap, rfl, h1, h2⟩ := h
 have hg' : (Value.slice a xs.length cap).ownBlock = some g := by cases a <;> exact hg
 obtain ⟨cur, hc⟩ := owns_block h2 hg'
 exact ⟨(h2.lt g hg').1, (h2.lt g hg').2, cur, hc⟩
theorem PreR.nil (T : TypeId) (k : IntKind) (base : Nat) (w : World) : PreR T k base w (.slice none 0 0) 0 [] := ⟨none, 0, rfl, Nat.le_refl _, World.ownsRow_nil _ _ _ _⟩
theorem PreR.of {T : TypeId} {k : IntKind} {base : Nat} {w : World} {v : Value} {xs : List Int} (h : w.ownsRow base T 1 v xs.length (xs.map fun x => Value.int k x)) : PreR T k base w v xs.length xs := by
 obtain ⟨a, cap, rfl⟩ := owns_form h
 exact ⟨a, cap, rfl, Nat.le_refl _, h⟩
theorem PreR.own {T : TypeId} {k : IntKind} {base : Nat} {w : World} {v : Value} {j : Nat} {xs : List Int} (h : PreR T k base w v j xs) : w.ownsRow base T 1 v j ((xs.take j).map fun x => Value.int k x) := by
 obtain ⟨a, cap, rfl, h1, h2⟩ := h
 refine ⟨by simp; omega, ?_⟩
 rcases h2.2 with ⟨e, e2⟩ | ⟨g, c, cur, e, hb, hg, g1, g2, g3, g4⟩
 · have : j = 0 := by omega
   subst this
   simp only [Value.slice.injEq] at e
   obtain ⟨rfl, _, rfl⟩ := e
   exact .inl ⟨rfl, rfl⟩
 · simp only [Value.slice.injEq] at e
   obtain ⟨rfl, _, rfl⟩ := e
   refine .inr ⟨g, cap, cur, rfl, hb, hg, by omega, g2, g3, ?_⟩
   rw [Nat.mul_one] at g4 ⊢
   rw [List.map_take, ← g4, List.take_take, Nat.min_eq_left h1]
theorem PreR.at {T : TypeId} {k : IntKind} {base : Nat} {w : World} {v : Value} {j : Nat} {xs : List Int} (h : PreR T k base w v j xs) {g : Nat} (hg : v.ownBlock = some g) : ∃ cap, v = .slice (some ⟨g, 0, none⟩) j cap := by
 obtain ⟨a, cap, rfl, h1, h2⟩ := h
 rcases h2.2 with ⟨e, _⟩ | ⟨b, c, cur, e, _⟩
 · simp only [Value.slice.injEq] at e
   obtain ⟨rfl, _, rfl⟩ := e
   cases hg
 · simp only [Value.slice.injEq] at e
   obtain ⟨rfl, _, rfl⟩ := e
   cases hg
   exact ⟨cap, rfl⟩
def putR (xs : List Int) (j : Nat) (news : List Int) : List Int := xs.take j ++ news ++ xs.drop (j + news.length)
theorem putR_len (xs : List Int) {j : Nat} (news : List Int) (hj : j ≤ xs.length) (h : j + news.length ≤ xs.length ∨ j = xs.length) : j + news.length ≤ (putR xs j news).length := by
 unfold putR
 simp only [List.length_append, List.length_take, List.length_drop]
 omega
theorem putR_take (xs : List Int) {j : Nat} (news : List Int) (hj : j ≤ xs.length) : (putR xs j news).take (j + news.length) = xs.take j ++ news := by
 unfold putR
 have hl : (xs.take j ++ news).length = j + news.length := by simp; omega
 rw [← hl]
 exact List.take_left
theorem putR_drop (xs : List Int) {j i : Nat} (news : List Int) (hj : j ≤ xs.length) (hi : j + news.length ≤ i) : (putR xs j news).drop i = xs.drop i := by
 unfold putR
 have hl : (xs.take j ++ news).length = j + news.length := by simp; omega
 rw [List.drop_append, hl, List.drop_eq_nil_of_le (by omega), List.nil_append, List.drop_drop]
 congr 1
 omega
set_option maxHeartbeats 1000000 in
theorem run_append_pre {ST T : TypeId} (hT : RT ST T 1 8) (w : World) (ty : TypeId) (k : IntKind) (base : Nat) (v : Value) (j : Nat) (xs : List Int) (h : PreR T k base w v j xs) (ad : Addr) (c : Nat) (news : List Int)
    (hsrc : ∀ i u, (news.map fun x => Value.int k x)[i]? = some u → w.cell? (ad.add i) = some u) (hfit : j + news.length ≤ xs.length ∨ j = xs.length) (hl : xs.length + news.length ≤ 2000000) (hB : base ≤ w.heap.size) :
    ∃ v' w', (Builtin.append_ #[ST, ST] ty #[v, .slice (some ad) news.length c]).run Tryz.prog w = .ok v' w' ∧ PreR T k base w' v' (j + news.length) (putR xs j news) ∧ w.grownBy w' v.ownBlock ∧ (v'.ownBlock = v.ownBlock ∨ (j = xs.length ∧ v'.ownBlock = some w.heap.size)) := by
 obtain ⟨a, cap, rfl, hj, ho⟩ := h
 have hone : ∀ u ∈ news.map (fun x => Value.int k x), u.oneCell' = true := by
  intro u hu
  obtain ⟨x, _, rfl⟩ := List.mem_map.1 hu
  rfl
 by_cases hc : j = xs.length
 · subst hc
   obtain ⟨v', w', h1, h2, h3, h4⟩ := run_append_rt hT w ty base _ xs.length _ ho (.slice (some ad) news.length c) news.length (news.map fun x => Value.int k x) (.inr ⟨ad, c, rfl, hsrc⟩) (by simp) hone (by unfold maxLen; omega) (by omega) hB
   refine ⟨v', w', h1, ?_, h3, h4.imp id (fun e => ⟨rfl, e⟩)⟩
   obtain ⟨a', cap', rfl⟩ := owns_form h2
   refine ⟨a', cap', rfl, putR_len xs news (Nat.le_refl _) hfit, ?_⟩
   have e : putR xs xs.length news = xs ++ news := by unfold putR; simp
   rw [e, List.length_append, List.map_append]
   exact h2
 · have hfit' : j + news.length ≤ xs.length := by omega
   rcases ho.2 with ⟨_, e⟩ | ⟨g, cap', cur, e, hb, hg, g1, g2, g3, g4⟩
   · omega
   · simp only [Value.slice.injEq] at e
     obtain ⟨rfl, _, rfl⟩ := e
     obtain ⟨_, i, z, hu, hi, hz, hs, hby, hzs⟩ := hT
     rw [Nat.mul_one] at g3 g4
     have hr := run_append_room (P := Tryz.prog) w ST ty T i hu hi g j cap cur hg ad news.length c (news.map fun x => Value.int k x) (by rw [hs]; simp) hsrc hone (by omega) (by rw [hs]; simp; omega)
     refine ⟨_, _, hr, ⟨some ⟨g, 0, none⟩, cap, rfl, putR_len xs news hj hfit, ?_⟩, ⟨rfl, rfl, rfl, by simp, fun i _ hi => setRow_other w g i _ (fun e => hi (by simp [Value.ownBlock, e]))⟩, .inl rfl⟩
     have hpl : (putR xs j news).length = xs.length := by
      unfold putR
      simp only [List.length_append, List.length_take, List.length_drop]
      omega
     rw [hpl]
     refine ⟨by simp [hpl], .inr ⟨g, cap, _, rfl, hb, setRow_heap w g cur _ T _ hg, g1, g2, ?_, ?_⟩⟩
     · rw [hs]
       simp only [List.size_toArray, List.length_append, List.length_take, List.length_drop, Array.length_toList, List.length_map, Nat.mul_one]
       omega
     · rw [hs, Nat.mul_one, Nat.mul_one]
       have e1 : cur.toList.take j = (xs.take j).map fun x => Value.int k x := by
        rw [List.map_take, ← g4, List.take_take, Nat.min_eq_left hj]
       have e2 : (cur.toList.drop (j + (news.map fun x => Value.int k x).length)).take (xs.length - (j + news.length)) = (xs.drop (j + news.length)).map fun x => Value.int k x := by
        rw [List.length_map, List.map_drop, ← g4, List.drop_take]
       rw [e1]
       have hl1 : ((xs.take j).map (fun x => Value.int k x) ++ news.map fun x => Value.int k x).length = j + news.length := by simp; omega
       rw [List.take_append, hl1, List.take_of_length_le (by rw [hl1]; omega), e2]
       unfold putR
       simp
theorem wpList_append_pre {ST T : TypeId} (hT : RT ST T 1 8) {w : World} {ops : Array Oper} {rest : List Oper} {o : Oper} {a : Act} {Q : Exit → Act → World → Prop} (hgd : o.guard = none) (s x : Operand)
    (ho : o.op = .call { callee := .builtin .append, args := #[s, x], argTypes := #[ST, ST] })
    (k : IntKind) (base : Nat) (v : Value) (j : Nat) (xs : List Int) (hs : a.eval s = v) (hp : PreR T k base w v j xs) (ad : Addr) (c : Nat) (news : List Int) (hx : a.eval x = .slice (some ad) news.length c)
    (hsrc : ∀ i u, (news.map fun x => Value.int k x)[i]? = some u → w.cell? (ad.add i) = some u) (hfit : j + news.length ≤ xs.length ∨ j = xs.length) (hl : xs.length + news.length ≤ 2000000) (hB : base ≤ w.heap.size)
    (h : ∀ v' w', PreR T k base w' v' (j + news.length) (putR xs j news) → w.grownBy w' v.ownBlock → (v'.ownBlock = v.ownBlock ∨ (j = xs.length ∧ v'.ownBlock = some w.heap.size)) → wpList Tryz.prog ops Q rest (a.put o.dst v') w') : wpList Tryz.prog ops Q (o :: rest) a w := by
 obtain ⟨v', w', hr, h2, h3, h4⟩ := run_append_pre hT w o.type k base v j xs hp ad c news hsrc hfit hl hB
 refine wpList_plain hgd fun K hK => ?_
 unfold Oper.wp execOp
 simp only [ho, resolve, invoke, builtin, Sem.run_bind, Sem.run_pure, Result.andThen_ok, List.map_toArray, List.map_cons, List.map_nil, hs, hx, hr]
 exact hK _ _ (h v' w' h2 h3 h4)
theorem info_u64 : (Tryz.prog.info? 43).map (fun i => (i.zero, i.size, i.bytes)) = some (some (.int .u64 0), 1, 8) := by kernel_rfl
theorem rt_u64 : RT 162 43 1 8 := by
 obtain ⟨i, h1, h2, h3, h4⟩ := info_parts info_u64
 exact ⟨by omega, i, _, Tryz.underlying162, h1, h2, h3, h4, rfl⟩
end Go.Proofs.YtgldjpldldknoaaGreatDoor
/- The walk of Parser.add. -/
set_option linter.unusedSimpArgs false
set_option linter.unusedVariables false
namespace Go.Proofs.YtgldjpldldknoaaGreatDoor
open Go.RowKit
structure SqP (base : Nat) (w : World) (rb : Nat) (iv kv : Value) (j : Nat) (xs ys : List Int) : Prop where
 box : w.heap[rb]? = some (Obj.cells #[iv, kv] 164 (0, 0))
 pi : PreR 28 .i64 base w iv j xs
 pk : PreR 43 .u64 base w kv j ys
 len : ys.length = xs.length
theorem SqP.kept {S : Nat → Prop} {base B mb : Nat} {w w' : World} {rb : Nat} {iv kv : Value} {j : Nat} {xs ys : List Int} (h : SqP base w rb iv kv j xs ys) (hK : Ks S B mb w w') (h1 : ¬ S rb) (h2 : ∀ k, iv.ownBlock = some k → ¬ S k) (h3 : ∀ k, kv.ownBlock = some k → ¬ S k) : SqP base w' rb iv kv j xs ys :=
 ⟨hK.cells _ _ _ _ h.box (by decide) h1, h.pi.keep (fun g cs t f e hg => by
     obtain ⟨_, _, cur, hc⟩ := h.pi.blk e
     rw [hg] at hc
     cases hc
     exact hK.cells _ _ _ _ hg (by decide) (h2 g e)), h.pk.keep (fun g cs t f e hg => by
     obtain ⟨_, _, cur, hc⟩ := h.pk.blk e
     rw [hg] at hc
     cases hc
     exact hK.cells _ _ _ _ hg (by decide) (h3 g e)), h.len⟩
theorem SqP.kept0 {base : Nat} {w w' : World} {rb : Nat} {iv kv : Value} {j : Nat} {xs ys : List Int} (h : SqP base w rb iv kv j xs ys) (hf : Fr0 w w') : SqP base w' rb iv kv j xs ys := ⟨hf.kept h.box, h.pi.kept0 hf, h.pk.kept0 hf, h.len⟩
theorem SqP.keptX {base B mb : Nat} {w w' : World} {rb : Nat} {iv kv : Value} {j : Nat} {xs ys : List Int} (h : SqP base w rb iv kv j xs ys) (hK : Kx B mb w w') : SqP base w' rb iv kv j xs ys := h.kept hK id (fun _ _ => id) (fun _ _ => id)
theorem SqP.kne {base : Nat} {w : World} {rb : Nat} {iv kv : Value} {j : Nat} {xs ys : List Int} (h : SqP base w rb iv kv j xs ys) : (iv.ownBlock ≠ some rb) ∧ (kv.ownBlock ≠ some rb) ∧ (∀ k, iv.ownBlock = some k → kv.ownBlock ≠ some k) := by
 refine ⟨fun e => ?_, fun e => ?_, fun k e1 e2 => ?_⟩
 · obtain ⟨_, _, cur, hc⟩ := h.pi.blk e
   exact ne_of_types hc h.box (by decide) rfl
 · obtain ⟨_, _, cur, hc⟩ := h.pk.blk e
   exact ne_of_types hc h.box (by decide) rfl
 · obtain ⟨_, _, cur, hc⟩ := h.pi.blk e1
   obtain ⟨_, _, cur2, hc2⟩ := h.pk.blk e2
   exact ne_of_types hc hc2 (by decide) rfl
def sqS (rb : Nat) (iv kv : Value) (k : Nat) : Prop := k = rb ∨ iv.ownBlock = some k ∨ kv.ownBlock = some k
theorem SqP.putI {base : Nat} {w W w1 : World} {rb : Nat} {iv kv iv' : Value} {j : Nat} {xs ys : List Int} {x : Int} {o : Obj} (h : SqP base w rb iv kv j xs ys) (hf : Fr0 w W) (h1 : PreR 28 .i64 base w1 iv' (j + 1) (putR xs j [x])) (hg : (W.alloc o).grownBy w1 iv.ownBlock) :
    (w1.setCell ⟨rb, 0, none⟩ iv').heap[rb]? = some (Obj.cells #[iv', kv] 164 (0, 0)) ∧ PreR 28 .i64 base (w1.setCell ⟨rb, 0, none⟩ iv') iv' (j + 1) (putR xs j [x]) ∧ PreR 43 .u64 base (w1.setCell ⟨rb, 0, none⟩ iv') kv j ys ∧ Fr (sqS rb iv kv) w (w1.setCell ⟨rb, 0, none⟩ iv') ∧ w1.heap[rb]? = some (Obj.cells #[iv, kv] 164 (0, 0)) := by
 obtain ⟨n1, n2, n3⟩ := h.kne
 have hW := hf.alloc o
 have hfr : Fr (fun k => iv.ownBlock = some k) w w1 := Fr.grown (Fr0.fr hW) hg (fun k hk _ => hk)
 have hrb : w1.heap[rb]? = some (Obj.cells #[iv, kv] 164 (0, 0)) := hfr.kept h.box n1
 refine ⟨setCell_block hrb 0 iv', h1.keep (fun g cs t f e hc => ?_), h.pk.keep (fun g cs t f e hc => ?_), (hfr.mono (fun k hk _ => .inr (.inl hk))).setCell _ _ (fun _ => .inl rfl), hrb⟩
 · rw [setCell_other]
   · exact hc
   · intro e2
     obtain ⟨_, _, cur, hc2⟩ := h1.blk e
     rw [show g = rb from e2] at hc2
     exact ne_of_types hc2 hrb (by decide) rfl
 · rw [setCell_other]
   · exact hfr.kept hc (fun e2 => n3 g e2 e)
   · intro e2
     exact n2 (by rw [e]; exact congrArg some e2)
theorem SqP.putK {base : Nat} {W w1 : World} {rb : Nat} {iv' kv kv' : Value} {j : Nat} {xs' ys : List Int} {y : Int} {o : Obj} (hbox : W.heap[rb]? = some (Obj.cells #[iv', kv] 164 (0, 0))) (hi : PreR 28 .i64 base W iv' (j + 1) xs') (hk : PreR 43 .u64 base W kv j ys)
    (h1 : PreR 43 .u64 base w1 kv' (j + 1) (putR ys j [y])) (hg : (W.alloc o).grownBy w1 kv.ownBlock) (hl : (putR ys j [y]).length = xs'.length) :
    SqP base (w1.setCell ⟨rb, 1, none⟩ kv') rb iv' kv' (j + 1) xs' (putR ys j [y]) ∧ Fr (fun k => k = rb ∨ kv.ownBlock = some k) W (w1.setCell ⟨rb, 1, none⟩ kv') ∧ w1.heap[rb]? = some (Obj.cells #[iv', kv] 164 (0, 0)) := by
 have n2 : kv.ownBlock ≠ some rb := fun e => by
  obtain ⟨_, _, cur, hc⟩ := hk.blk e
  exact ne_of_types hc hbox (by decide) rfl
 have hfr : Fr (fun k => kv.ownBlock = some k) W w1 := Fr.grown (Fr0.fr ((Fr0.refl W).alloc o)) hg (fun k hk _ => hk)
 have hrb : w1.heap[rb]? = some (Obj.cells #[iv', kv] 164 (0, 0)) := hfr.kept hbox n2
 refine ⟨⟨setCell_block hrb 1 kv', hi.keep (fun g cs t f e hc => ?_), h1.keep (fun g cs t f e hc => ?_), hl⟩, (hfr.mono (fun k hk _ => .inr hk)).setCell _ _ (fun _ => .inl rfl), hrb⟩
 · obtain ⟨_, _, cur, hc2⟩ := hi.blk e
   rw [setCell_other]
   · refine hfr.kept hc (fun e2 => ?_)
     obtain ⟨_, _, cur3, hc3⟩ := hk.blk e2
     exact ne_of_types hc2 hc3 (by decide) rfl
   · intro e2
     rw [show g = rb from e2] at hc2
     exact ne_of_types hc2 hbox (by decide) rfl
 · rw [setCell_other]
   · exact hc
   · intro e2
     obtain ⟨_, _, cur, hc2⟩ := h1.blk e
     rw [show g = rb from e2] at hc2
     exact ne_of_types hc2 hrb (by decide) rfl
theorem putR_one_len (xs : List Int) {j : Nat} (x : Int) (hj : j ≤ xs.length) : (putR xs j [x]).length = max xs.length (j + 1) := by
 unfold putR
 simp only [List.length_append, List.length_take, List.length_drop, List.length_cons, List.length_nil]
 omega
theorem SqP.ko {base B : Nat} {w w' : World} {rb : Nat} {iv kv : Value} {j : Nat} {xs ys : List Int} (h : SqP base w rb iv kv j xs ys) (hB : B ≤ base) (hrb : B ≤ rb) (hf : Fr (sqS rb iv kv) w w') : Ko B w w' :=
 (Ko.refl B w).fr hf (fun i hi => by
  rcases hi with rfl | hi | hi
  · exact ⟨hrb, _, _, _, h.box, by decide⟩
  · obtain ⟨h1, h2, cur, hc⟩ := h.pi.blk hi
    exact ⟨by omega, _, _, _, hc, by decide⟩
  · obtain ⟨h1, h2, cur, hc⟩ := h.pk.blk hi
    exact ⟨by omega, _, _, _, hc, by decide⟩)
def AddPost (base B : Nat) (w : World) (pp tp p mb : Nat) (most : Int) (L : List Ent) (rb : Nat) (iv kv : Value) (j : Nat) (xs ys : List Int) (id : Int) (e : Ending) (w' : World) : Prop :=
 ∃ T' iv' kv', e = .returned .nilIface ∧ Pq B w' pp tp p mb most L T' ∧ SqP base w' rb iv' kv' (j + 1) (putR xs j [id]) (putR ys j [kkey L id]) ∧ Ks (sqS rb iv kv) B mb w w' ∧
  (∀ k, iv'.ownBlock = some k → iv.ownBlock = some k ∨ w.heap.size ≤ k) ∧ (∀ k, kv'.ownBlock = some k → kv.ownBlock = some k ∨ w.heap.size ≤ k) ∧ (j < xs.length → iv'.ownBlock = iv.ownBlock) ∧ (j < ys.length → kv'.ownBlock = kv.ownBlock)
set_option maxRecDepth 100000 in
set_option maxHeartbeats 4000000 in
theorem sig_add {base B : Nat} {w : World} {pp tp p mb : Nat} {most : Int} {L : List Ent} {T : List KRow} {rb : Nat} {iv kv : Value} {j : Nat} {xs ys : List Int} (h : Pq B w pp tp p mb most L T) (hq : SqP base w rb iv kv j xs ys) (hB : B ≤ base) (hbw : base ≤ w.heap.size) (hrb : B ≤ rb) (hl : xs.length ≤ 1000000) (id : Int) (hk : isKnown L id) (h0 : id ≠ 0) :
    Calls Tryz.prog 101 #[.pointer (some ⟨pp, 0, none⟩), .pointer (some ⟨rb, 0, none⟩), .int .i64 id] w (AddPost base B w pp tp p mb most L rb iv kv j xs ys id) := by
 obtain ⟨c0, c1, lp⟩ := h.front
 have C1 := Lib.hid (keys_Key h id hk h0)
 have HQ := Lib.hid hq
 obtain ⟨k3, hk3⟩ : ∃ z, kkey L id = z := ⟨_, rfl⟩
 rw [hk3] at C1
 have HK3 := Lib.hid hk3
 clear h hq hk h0 hk3
 go_enter Tryz.func101, Tryz.ntmps101
 go_wp2_with fail
 refine C1.out.mono ?_
 rintro e w1 ⟨T1, rfl, hp, hx⟩
 have HP1 := Lib.hid hp
 have HX1 := Lib.hid hx
 have hq1 := HQ.out.keptX hx
 have HQ1 := Lib.hid hq1
 obtain ⟨d0, d1, df, ld⟩ := cells2 hq1.box
 have hbw1 : base ≤ w1.heap.size := Nat.le_trans hbw hx.size
 obtain ⟨ia, ic, hiv, hj, _⟩ := hq1.pi
 obtain ⟨ka, kc, hkv, _, _⟩ := hq1.pk
 have hyl := hq1.len
 clear C1 hp hx c0 c1 lp hq1
 subst hiv
 subst hkv
 have hji : j + [id].length ≤ xs.length ∨ j = xs.length := by simp only [List.length_singleton]; omega
 have hjk : j + [k3].length ≤ ys.length ∨ j = ys.length := by simp only [List.length_singleton]; omega
 have hli : xs.length + [id].length ≤ 2000000 := by simp only [List.length_singleton]; omega
 have hlk : ys.length + [k3].length ≤ 2000000 := by simp only [List.length_singleton]; omega
 have HJ := Lib.hid hj
 have HLEN : Hid ((putR ys j [k3]).length = (putR xs j [id]).length) := by show _ = _; rw [putR_one_len _ _ HJ.out, putR_one_len _ _ (by have := HJ.out; omega), hyl]
 clear hj
 go_wp2_with (first | (at_builtin; refine wpList_append_pre rt_id rfl _ _ rfl .i64 base (.slice ia j ic) j xs rfl (HQ1.out.pi.kept0 ((Fr0.refl w1).alloc _)) ⟨w1.heap.size, 0, none⟩ 1 [id] rfl (World.news_of_block (cs := #[.int .i64 id]) (t := 28) (fr := (0, 0)) (heap_alloc_new w1 _)) hji hli (by simp; omega) ?_; intro v1 w2 hP2 hg2 hat2; have hP2' := hP2; obtain ⟨va, vc, hv1, hj2, _⟩ := hP2'; subst hv1; obtain ⟨hbox2, hpi2, hpk2, hfr2, hrb2⟩ := HQ1.out.putI (Fr0.refl w1) hP2 hg2; clear d0 d1 df ld; obtain ⟨d0, d1, df, ld⟩ := cells2 hrb2; have HB2 := Lib.hid hbox2; have HPI2 := Lib.hid hpi2; have HPK2 := Lib.hid hpk2; have HFR2 := Lib.hid hfr2; have HAT2 := Lib.hid hat2; have hls : base ≤ w2.heap.size := (by have := hg2.size; simp at this; omega); clear hbox2 hpi2 hpk2 hfr2 hrb2 hP2 hg2 hat2 hj2) | (at_builtin; go_must (refine wpList_append_pre rt_u64 rfl _ _ rfl .u64 base (.slice ka j kc) j ys rfl (HPK2.out.kept0 ((Fr0.refl (w2.setCell ⟨rb, 0, none⟩ (.slice va (j + 1) vc))).alloc _)) ⟨w2.heap.size, 0, none⟩ 1 [k3] rfl (World.news_of_block (cs := #[.int .u64 k3]) (t := 43) (fr := (0, 0)) (alloc_at (w2.setCell ⟨rb, 0, none⟩ (.slice va (j + 1) vc)) _ w2.heap.size (by simp [World.setCell]))) hjk hlk (by simp; omega) ?_); intro v3 w3 hP3 hg3 hat3; have hP3' := hP3; obtain ⟨vb, vd, hv3, hj3, _⟩ := hP3'; subst hv3; obtain ⟨hsq3, hfr3, hrb3⟩ := SqP.putK HB2.out HPI2.out HPK2.out hP3 hg3 HLEN.out; clear d0 d1 df ld; obtain ⟨d0, d1, df, ld⟩ := cells2 hrb3; have HSQ3 := Lib.hid hsq3; have HFR3 := Lib.hid hfr3; have HAT3 := Lib.hid hat3; clear hsq3 hfr3 hrb3 hP3 hg3 hat3 hj3))
 go_ret
 have hfr : Fr (sqS rb (.slice ia j ic) (.slice ka j kc)) w1 _ := HFR2.out.trans HFR3.out (fun k hk _ => by
  rcases hk with hk | hk
  · exact .inl hk
  · exact .inr (.inr hk))
 have hz2 := HFR2.out.size
 have hs1 := HX1.out.size
 refine ⟨T1, .slice va (j + 1) vc, .slice vb (j + 1) vd, rfl, HP1.out.keptO (HQ1.out.ko hB hrb hfr), ?_, ?_, ?_, ?_, fun hj => HAT2.out.resolve_right (fun e => by omega), fun hj => HAT3.out.resolve_right (fun e => by omega)⟩
 · rw [HK3.out]; exact HSQ3.out
 · exact Ks.fr (Ks.weak HX1.out (fun _ _ e => e.elim)) hfr (fun i _ hi => hi)
 · intro k hk
   rcases HAT2.out with e | ⟨_, e⟩
   · exact .inl (e.symm.trans hk)
   · have e2 := e.symm.trans hk
     simp at e2
     exact .inr (by omega)
 · intro k hk
   rcases HAT3.out with e | ⟨_, e⟩
   · exact .inl (e.symm.trans hk)
   · have e2 := e.symm.trans hk
     simp [World.setCell] at e2
     simp [World.setCell] at hz2
     exact .inr (by omega)
end Go.Proofs.YtgldjpldldknoaaGreatDoor
/- The store's operations over a parser; the letters of a text (plain). -/
set_option linter.unusedSimpArgs false
set_option linter.unusedVariables false
namespace Go.Proofs.YtgldjpldldknoaaGreatDoor
open Go.RowKit
def MkQ (B : Nat) (w : World) (pp tp p mb : Nat) (most : Int) (L' : List Ent) (T : List KRow) (id : Int) (e : Ending) (w' : World) : Prop :=
 e = .returned (.tuple #[.int .i64 id, .nilIface]) ∧ Pq B w' pp tp p mb most L' T ∧ Kx B mb w w'
theorem letter_new {L : List Ent} (hS : SOk L) (hD : DOk L) (hU : Uq L) (b : Int) (h0 : 0 ≤ b) (h1 : b < 256) :
    Gu L (addL L (letterEnt b)) 1 ∧ isKnown (addL L (letterEnt b)) (addI L (letterEnt b)) ∧ addI L (letterEnt b) ≠ 0 ∧ txt (addL L (letterEnt b)) (addI L (letterEnt b)) = [b] ∧ klev (addL L (letterEnt b)) (addI L (letterEnt b)) = 0 := by
 have k1 := addI_known L (letterEnt b)
 have e1 := ent_letter hD b
 have hk : (entAt (addL L (letterEnt b)) (addI L (letterEnt b))).rule.kind = 1 := by rw [e1]; rfl
 refine ⟨⟨⟨addL_ext L _, (addL_len _ _).2, hS.letter b h0 h1, hD.letter b, fun u => u.letter b h0 h1⟩, hU.letter b h0 h1⟩, k1.1, k1.2, ?_, (kl_letter (by have := k1.1.1; have := k1.2; omega) hk).2⟩
 rw [txt_letter k1.1 k1.2 hk, e1]
 rfl
theorem pq_Letter {B : Nat} {w : World} {pp tp p mb : Nat} {most : Int} {L : List Ent} {T : List KRow} (h : Pq B w pp tp p mb most L T) (b : Int) (h0 : 0 ≤ b) (h1 : b < 256) (hm : (L.length : Int) < most) (hL : L.length < 1000000) :
    Calls Tryz.prog 40 #[.pointer (some ⟨p, 0, none⟩), .int .u8 b] w (MkQ B w pp tp p mb most (addL L (letterEnt b)) T (addI L (letterEnt b))) := by
 obtain ⟨sv, hS', s1, s2, s3⟩ := h.st
 refine (st_Letter hS' b h0 h1 hm (by omega)).mono ?_
 rintro e w' ⟨rfl, hst⟩
 obtain ⟨q1, q2⟩ := Sto.step hS' s1 s2 s3 h.base hst
 exact ⟨rfl, h.rules q1 q2 (letter_new h.sok h.dok h.uq b h0 h1).1 (by have := (addL_len L (letterEnt b)).2; omega), Ks.ofK q2⟩
theorem pq_Pair {B : Nat} {w : World} {pp tp p mb : Nat} {most : Int} {L : List Ent} {T : List KRow} (h : Pq B w pp tp p mb most L T) (x y : Int) (hx : isKnown L x) (hy : isKnown L y) (x0 : x ≠ 0) (y0 : y ≠ 0) (hl : (txt L x).length + (txt L y).length ≤ 1152921504606846976) (hm : (L.length : Int) < most) (hL : L.length < 1000000) :
    Calls Tryz.prog 41 #[.pointer (some ⟨p, 0, none⟩), .int .i64 x, .int .i64 y] w (MkQ B w pp tp p mb most (addL L (pairEnt L x y)) T (addI L (pairEnt L x y))) := by
 obtain ⟨sv, hS', s1, s2, s3⟩ := h.st
 have l1 := txt_len h.dok h.sok _ x (Nat.le_refl _) hx
 have l2 := txt_len h.dok h.sok _ y (Nat.le_refl _) hy
 refine (st_Pair hS' h.sok x y hx hy x0 y0 (by omega) hm (by omega)).mono ?_
 rintro e w' ⟨rfl, hst⟩
 obtain ⟨q1, q2⟩ := Sto.step hS' s1 s2 s3 h.base hst
 exact ⟨rfl, h.rules q1 q2 (pair_new h.sok h.dok h.uq hx hy x0 y0 hl).1 (by have := (addL_len L (pairEnt L x y)).2; omega), Ks.ofK q2⟩
theorem pq_Power {B : Nat} {w : World} {pp tp p mb : Nat} {most : Int} {L : List Ent} {T : List KRow} (h : Pq B w pp tp p mb most L T) (x : Int) (k : Nat) (hx : isKnown L x) (x0 : x ≠ 0) (hk : 2 ≤ k) (hl : (txt L x).length * k ≤ 1152921504606846976) (hm : (L.length : Int) < most) (hL : L.length < 1000000) :
    Calls Tryz.prog 87 #[.pointer (some ⟨p, 0, none⟩), .int .i64 x, .int .i64 k] w (MkQ B w pp tp p mb most (addL L (powEnt L x k)) T (addI L (powEnt L x k))) := by
 obtain ⟨sv, hS', s1, s2, s3⟩ := h.st
 have l1 := txt_len h.dok h.sok _ x (Nat.le_refl _) hx
 refine (st_Power hS' h.sok x k hx x0 hk (by rw [← l1, ← Int.natCast_mul]; omega) hm (by omega)).mono ?_
 rintro e w' ⟨rfl, hst⟩
 obtain ⟨q1, q2⟩ := Sto.step hS' s1 s2 s3 h.base hst
 exact ⟨rfl, h.rules q1 q2 (pow_new h.sok h.dok h.uq hx x0 hk hl).1 (by have := (addL_len L (powEnt L x k)).2; omega), Ks.ofK q2⟩
def letF : List Ent → List Int → List Ent × List Int
 | L, [] => (L, [])
 | L, b :: r => ((letF (addL L (letterEnt b)) r).1, addI L (letterEnt b) :: (letF (addL L (letterEnt b)) r).2)
theorem letF_snoc (b : Int) : ∀ (bs : List Int) (L : List Ent), letF L (bs ++ [b]) = (addL (letF L bs).1 (letterEnt b), (letF L bs).2 ++ [addI (letF L bs).1 (letterEnt b)])
 | [], L => rfl
 | x :: bs, L => by
  show ((letF (addL L (letterEnt x)) (bs ++ [b])).1, addI L (letterEnt x) :: (letF (addL L (letterEnt x)) (bs ++ [b])).2) = _
  rw [letF_snoc b bs]
  rfl
theorem letF_ok : ∀ (bs : List Int) (L : List Ent), SOk L → DOk L → Uq L → (∀ b ∈ bs, 0 ≤ b ∧ b < 256) →
    Gu L (letF L bs).1 bs.length ∧ (∀ u ∈ (letF L bs).2, isKnown (letF L bs).1 u ∧ u ≠ 0 ∧ klev (letF L bs).1 u = 0) ∧ txts (letF L bs).1 (letF L bs).2 = bs ∧ (letF L bs).2.length = bs.length
 | [], L, hS, hD, hU, _ => ⟨Gu.refl hS hD hU, fun u hu => by simp [letF] at hu, rfl, rfl⟩
 | b :: bs, L, hS, hD, hU, hb => by
  obtain ⟨g1, g2, g3, g4, g5⟩ := letter_new hS hD hU b (hb b (by simp)).1 (hb b (by simp)).2
  obtain ⟨i1, i2, i3, i4⟩ := letF_ok bs (addL L (letterEnt b)) g1.gr.sok g1.gr.dok g1.uq (fun x hx => hb x (by simp [hx]))
  obtain ⟨M, hM⟩ := i1.gr.ext
  have hd := i1.gr.dok
  have e1 : klev (letF (addL L (letterEnt b)) bs).1 (addI L (letterEnt b)) = 0 := by
   rw [hM] at hd ⊢
   rw [(kl_more g1.gr.dok M hd _ _ (Nat.le_refl _) g2 g3).2, g5]
  have e2 : txt (letF (addL L (letterEnt b)) bs).1 (addI L (letterEnt b)) = [b] := by rw [hM, txt_append g1.gr.dok M g2, g4]
  refine ⟨g1.trans i1 (by simp only [List.length_cons]; omega), fun u hu => ?_, ?_, ?_⟩
  · rcases List.mem_cons.1 hu with e | hu
    · rw [e]
      refine ⟨?_, g3, e1⟩
      show isKnown (letF (addL L (letterEnt b)) bs).1 _
      rw [hM]
      exact known_more g2 M
    · exact i2 u hu
  · show txts (letF (addL L (letterEnt b)) bs).1 (addI L (letterEnt b) :: (letF (addL L (letterEnt b)) bs).2) = b :: bs
    rw [txts_cons, e2, i3]
    rfl
  · show (addI L (letterEnt b) :: (letF (addL L (letterEnt b)) bs).2).length = _
    simp [i4]
theorem letF_seq {L : List Ent} {bs : List Int} (hS : SOk L) (hD : DOk L) (hU : Uq L) (hb : ∀ b ∈ bs, 0 ≤ b ∧ b < 256) : SeqI (letF L bs).1 1 (letF L bs).2 := by
 obtain ⟨h1, h2, h3, h4⟩ := letF_ok bs L hS hD hU hb
 have hall : ∀ (R : Int → Int → Prop) (l : List Int), (∀ x ∈ l, ∀ y ∈ l, R x y) → Adj R l := by
  intro R l
  induction l with
  | nil => intro _; trivial
  | cons x l ih =>
   intro h
   cases l with
   | nil => trivial
   | cons y t => exact ⟨h x (by simp) y (by simp), ih (fun a ha b hb => h a (by simp [List.mem_cons] at ha ⊢; exact .inr ha) b (by simp [List.mem_cons] at hb ⊢; exact .inr hb))⟩
 refine ⟨fun u hu => ⟨(h2 u hu).1, (h2 u hu).2.1⟩, fun u hu => by rw [(h2 u hu).2.2]; omega, hall _ _ (fun u hu v hv k k1 k2 => ?_), hall _ _ (fun u hu v hv _ => ⟨by decide, by rw [(h2 u hu).2.2]; rfl⟩)⟩
 rw [(h2 u hu).2.2, (h2 v hv).2.2] at k1
 omega
theorem kl_seq {L : List Ent} (hD : DOk L) {M : List Ent} (hD' : DOk (L ++ M)) : ∀ (ids : List Int), (∀ u ∈ ids, isKnown L u ∧ u ≠ 0) → ids.map (kkey (L ++ M)) = ids.map (kkey L) := by
 intro ids h
 exact List.map_congr_left (fun u hu => (kl_more hD M hD' _ u (Nat.le_refl _) (h u hu).1 (h u hu).2).1)
end Go.Proofs.YtgldjpldldknoaaGreatDoor
/- Levels (plain): in a store that holds all that it needs, a text has one signature. -/
set_option linter.unusedSimpArgs false
set_option linter.unusedVariables false
namespace Go.Proofs.YtgldjpldldknoaaGreatDoor
open Go.RowKit
theorem ruleIdx_more {r : Rl} {L : List Ent} {j : Nat} (h : ruleIdx r L = some j) (M : List Ent) : ruleIdx r (L ++ M) = some j := by
 unfold ruleIdx at h ⊢
 rw [List.findIdx?_append, h]
 rfl
theorem add_again (L : List Ent) (e e' : Ent) (he : e'.rule = e.rule) (M : List Ent) : addL (addL L e ++ M) e' = addL L e ++ M ∧ addI (addL L e ++ M) e' = addI L e := by
 cases hj : ruleIdx e.rule L with
 | some j =>
  have h1 : ruleIdx e'.rule (addL L e ++ M) = some j := by rw [addL_some hj, he]; exact ruleIdx_more hj M
  rw [addL_some h1, addI_some h1, addI_some hj]
  exact ⟨rfl, rfl⟩
 | none =>
  have h0 : ruleIdx e.rule (L ++ [e]) = some L.length := by
   unfold ruleIdx at hj ⊢
   rw [List.findIdx?_append, hj]
   simp
  have h1 : ruleIdx e'.rule (addL L e ++ M) = some L.length := by rw [addL_none hj, he]; exact ruleIdx_more h0 M
  rw [addL_some h1, addI_some h1, addI_none hj]
  exact ⟨rfl, rfl⟩
theorem prL_ext {c : Nat} : ∀ (n : Nat) (ids : List Int) (L : List Ent), ids.length ≤ n → ∃ M, (prL c L ids).1 = L ++ M := by
 intro n
 induction n with
 | zero =>
  intro ids L hn
  have : ids = [] := List.eq_nil_of_length_eq_zero (by omega)
  subst this
  exact ⟨[], by rw [prL]; simp⟩
 | succ n ih =>
  intro ids L hn
  match ids with
  | [] => exact ⟨[], by rw [prL]; simp⟩
  | [x] => exact ⟨[], by rw [prL]; simp⟩
  | x :: y :: t =>
   rw [prL]
   split
   · obtain ⟨M1, h1⟩ := addL_ext L (pairEnt L x y)
     obtain ⟨M2, h2⟩ := ih t (addL L (pairEnt L x y)) (by simp only [List.length_cons] at hn; omega)
     exact ⟨M1 ++ M2, by rw [h2, h1, List.append_assoc]⟩
   · exact ih (y :: t) L (by simp only [List.length_cons] at hn ⊢; omega)
theorem prL_fix {c : Nat} : ∀ (n : Nat) (ids : List Int) (L : List Ent), ids.length ≤ n → DOk L → (∀ u ∈ ids, isKnown L u ∧ u ≠ 0) → ∀ M, DOk ((prL c L ids).1 ++ M) →
    prL c ((prL c L ids).1 ++ M) ids = ((prL c L ids).1 ++ M, (prL c L ids).2) := by
 intro n
 induction n with
 | zero =>
  intro ids L hn hD hk M hD'
  have : ids = [] := List.eq_nil_of_length_eq_zero (by omega)
  subst this
  rw [prL]
  rw [prL]
 | succ n ih =>
  intro ids L hn hD hk M hD'
  match ids with
  | [] => rw [prL]; rw [prL]
  | [x] => rw [prL]; rw [prL]
  | x :: y :: t =>
   have kx := hk x (by simp)
   have ky := hk y (by simp)
   obtain ⟨M0, h0⟩ := prL_ext (c := c) _ (x :: y :: t) L (Nat.le_refl _)
   have ek : kkey ((prL c L (x :: y :: t)).1 ++ M) x = kkey L x ∧ kkey ((prL c L (x :: y :: t)).1 ++ M) y = kkey L y := by
    rw [h0, List.append_assoc] at hD' ⊢
    exact ⟨(kl_more hD _ hD' _ x (Nat.le_refl _) kx.1 kx.2).1, (kl_more hD _ hD' _ y (Nat.le_refl _) ky.1 ky.2).1⟩
   by_cases hf : fitB c (kkey L x) (kkey L y) = true
   · have e1 : prL c L (x :: y :: t) = ((prL c (addL L (pairEnt L x y)) t).1, addI L (pairEnt L x y) :: (prL c (addL L (pairEnt L x y)) t).2) := by rw [prL, if_pos hf]
     obtain ⟨M1, h1⟩ := addL_ext L (pairEnt L x y)
     have D1 := hD.pair x y kx.1 ky.1 kx.2 ky.2
     obtain ⟨M2, h2⟩ := prL_ext (c := c) _ t (addL L (pairEnt L x y)) (Nat.le_refl _)
     rw [e1] at hD' ek ⊢
     have a := add_again L (pairEnt L x y) (pairEnt ((prL c (addL L (pairEnt L x y)) t).1 ++ M) x y) rfl (M2 ++ M)
     rw [← List.append_assoc, ← h2] at a
     have I := ih t (addL L (pairEnt L x y)) (by simp only [List.length_cons] at hn; omega) D1 (fun u hu => ⟨by rw [h1]; exact known_more (hk u (by simp [hu])).1 M1, (hk u (by simp [hu])).2⟩) M hD'
     rw [prL, if_pos (by rw [ek.1, ek.2]; exact hf), a.1, a.2, I]
   · have e1 : prL c L (x :: y :: t) = ((prL c L (y :: t)).1, x :: (prL c L (y :: t)).2) := by rw [prL, if_neg hf]
     rw [e1] at hD' ek ⊢
     have I := ih (y :: t) L (by simp only [List.length_cons] at hn ⊢; omega) hD (fun u hu => hk u (List.mem_cons_of_mem _ hu)) M hD'
     rw [prL, if_neg (by rw [ek.1, ek.2]; exact hf), I]
theorem rnL_ext : ∀ (g : List (Int × Nat)) (L : List Ent), ∃ M, (rnL L g).1 = L ++ M
 | [], L => ⟨[], by rw [rnL]; simp⟩
 | (x, k) :: g, L => by
  rw [rnL]
  split
  · obtain ⟨M1, h1⟩ := addL_ext L (powEnt L x k)
    obtain ⟨M2, h2⟩ := rnL_ext g (addL L (powEnt L x k))
    exact ⟨M1 ++ M2, by rw [h2, h1, List.append_assoc]⟩
  · exact rnL_ext g L
theorem rnL_fix : ∀ (g : List (Int × Nat)) (L : List Ent) (M : List Ent), rnL ((rnL L g).1 ++ M) g = ((rnL L g).1 ++ M, (rnL L g).2)
 | [], L, M => by rw [rnL]; rw [rnL]
 | (x, k) :: g, L, M => by
  by_cases hk : 1 < k
  · have e1 : rnL L ((x, k) :: g) = ((rnL (addL L (powEnt L x k)) g).1, addI L (powEnt L x k) :: (rnL (addL L (powEnt L x k)) g).2) := by rw [rnL, if_pos hk]
    obtain ⟨M2, h2⟩ := rnL_ext g (addL L (powEnt L x k))
    rw [e1]
    have a := add_again L (powEnt L x k) (powEnt ((rnL (addL L (powEnt L x k)) g).1 ++ M) x k) rfl (M2 ++ M)
    rw [← List.append_assoc, ← h2] at a
    rw [rnL, if_pos hk, a.1, a.2, rnL_fix g _ M]
  · have e1 : rnL L ((x, k) :: g) = ((rnL L g).1, x :: (rnL L g).2) := by rw [rnL, if_neg hk]
    rw [e1, rnL, if_neg hk, rnL_fix g L M]
theorem lvL_ext (l : Int) (L : List Ent) (ids : List Int) : ∃ M, (lvL l L ids).1 = L ++ M := by
 unfold lvL
 split
 · exact rnL_ext _ _
 · exact prL_ext _ _ _ (Nat.le_refl _)
theorem lvL_fix {l : Int} {L : List Ent} {ids : List Int} (hD : DOk L) (hk : ∀ u ∈ ids, isKnown L u ∧ u ≠ 0) (M : List Ent) (hD' : DOk ((lvL l L ids).1 ++ M)) :
    lvL l ((lvL l L ids).1 ++ M) ids = ((lvL l L ids).1 ++ M, (lvL l L ids).2) := by
 unfold lvL at hD' ⊢
 split
 · exact rnL_fix _ _ _
 · rename_i h
   rw [if_neg h] at hD'
   exact prL_fix _ _ _ (Nat.le_refl _) hD hk M hD'
theorem letF_ext : ∀ (bs : List Int) (L : List Ent), ∃ M, (letF L bs).1 = L ++ M
 | [], L => ⟨[], by simp [letF]⟩
 | b :: bs, L => by
  obtain ⟨M1, h1⟩ := addL_ext L (letterEnt b)
  obtain ⟨M2, h2⟩ := letF_ext bs (addL L (letterEnt b))
  exact ⟨M1 ++ M2, by show (letF (addL L (letterEnt b)) bs).1 = _; rw [h2, h1, List.append_assoc]⟩
theorem letF_fix : ∀ (bs : List Int) (L : List Ent) (M : List Ent), letF ((letF L bs).1 ++ M) bs = ((letF L bs).1 ++ M, (letF L bs).2)
 | [], L, M => rfl
 | b :: bs, L, M => by
  obtain ⟨M2, h2⟩ := letF_ext bs (addL L (letterEnt b))
  have a := add_again L (letterEnt b) (letterEnt b) rfl (M2 ++ M)
  rw [← List.append_assoc, ← h2] at a
  show ((letF (addL ((letF (addL L (letterEnt b)) bs).1 ++ M) (letterEnt b)) bs).1, addI ((letF (addL L (letterEnt b)) bs).1 ++ M) (letterEnt b) :: (letF (addL ((letF (addL L (letterEnt b)) bs).1 ++ M) (letterEnt b)) bs).2) = _
  rw [a.1, a.2, letF_fix bs _ M]
  rfl
def chF (K : List Ent) (bs : List Int) : Nat → List Int
 | 0 => (letF K bs).2
 | n + 1 => (lvL ((n : Int) + 1) K (chF K bs n)).2
structure ChI (K : List Ent) (bs : List Int) (n : Nat) (ids : List Int) : Prop where
 at_ : chF K bs n = ids
 many : ∀ k, k < n → 1 < (chF K bs k).length
 st : (letF K bs).1 = K
 lv : ∀ k : Nat, k < n → (lvL ((k : Int) + 1) K (chF K bs k)).1 = K
 kn : ∀ k, k ≤ n → ∀ u ∈ chF K bs k, isKnown K u ∧ u ≠ 0
theorem ChI.more {K : List Ent} {bs : List Int} {n : Nat} {ids : List Int} (h : ChI K bs n ids) (hD : DOk K) (M : List Ent) (hD' : DOk (K ++ M)) : ChI (K ++ M) bs n ids := by
 have e0 : letF (K ++ M) bs = (K ++ M, (letF K bs).2) := by
  have := letF_fix bs K M
  rw [h.st] at this
  exact this
 have ek : ∀ k, k ≤ n → chF (K ++ M) bs k = chF K bs k := by
  intro k
  induction k with
  | zero => intro _; show (letF (K ++ M) bs).2 = _; rw [e0]; rfl
  | succ k ih =>
   intro hk
   show (lvL ((k : Int) + 1) (K ++ M) (chF (K ++ M) bs k)).2 = _
   rw [ih (by omega)]
   have := lvL_fix (l := (k : Int) + 1) hD (h.kn k (by omega)) M (by rw [h.lv k (by omega)]; exact hD')
   rw [h.lv k (by omega)] at this
   rw [this]
   rfl
 refine ⟨by rw [ek n (Nat.le_refl _)]; exact h.at_, fun k hk => by rw [ek k (by omega)]; exact h.many k hk, by rw [e0], fun k hk => ?_, fun k hk u hu => ?_⟩
 · rw [ek k (by omega)]
   have := lvL_fix (l := (k : Int) + 1) hD (h.kn k (by omega)) M (by rw [h.lv k hk]; exact hD')
   rw [h.lv k hk] at this
   rw [this]
 · rw [ek k hk] at hu
   exact ⟨known_more (h.kn k hk u hu).1 M, (h.kn k hk u hu).2⟩
theorem ChI.start {L : List Ent} {bs : List Int} (hS : SOk L) (hD : DOk L) (hU : Uq L) (hb : ∀ b ∈ bs, 0 ≤ b ∧ b < 256) : ChI (letF L bs).1 bs 0 (letF L bs).2 := by
 have e := letF_fix bs L []
 rw [List.append_nil] at e
 obtain ⟨h1, h2, h3, h4⟩ := letF_ok bs L hS hD hU hb
 have e2 : chF (letF L bs).1 bs 0 = (letF L bs).2 := by show (letF (letF L bs).1 bs).2 = _; rw [e]
 refine ⟨e2, fun k hk => absurd hk (by omega), by rw [e], fun k hk => absurd hk (by omega), fun k hk u hu => ?_⟩
 have : k = 0 := by omega
 subst this
 rw [e2] at hu
 exact ⟨(h2 u hu).1, (h2 u hu).2.1⟩
theorem ChI.step {K : List Ent} {bs : List Int} {n : Nat} {ids : List Int} (h : ChI K bs n ids) (hD : DOk K) (h1 : 1 < ids.length) (hD' : DOk (lvL ((n : Int) + 1) K ids).1)
    (hk : ∀ u ∈ (lvL ((n : Int) + 1) K ids).2, isKnown (lvL ((n : Int) + 1) K ids).1 u ∧ u ≠ 0) : ChI (lvL ((n : Int) + 1) K ids).1 bs (n + 1) (lvL ((n : Int) + 1) K ids).2 := by
 have hf := lvL_fix (l := (n : Int) + 1) (ids := ids) hD (by have := h.kn n (Nat.le_refl _); rw [h.at_] at this; exact this) [] (by rw [List.append_nil]; exact hD')
 rw [List.append_nil] at hf
 obtain ⟨M, hM⟩ := lvL_ext ((n : Int) + 1) K ids
 generalize (lvL ((n : Int) + 1) K ids).2 = out at hf hk ⊢
 generalize (lvL ((n : Int) + 1) K ids).1 = K2 at hf hk hM hD' ⊢
 have g : ChI K2 bs n ids := by
  subst hM
  exact h.more hD M hD'
 have en : chF K2 bs (n + 1) = out := by
  show (lvL ((n : Int) + 1) K2 (chF K2 bs n)).2 = _
  rw [g.at_, hf]
 refine ⟨en, fun k hk2 => ?_, g.st, fun k hk2 => ?_, fun k hk2 u hu => ?_⟩
 · rcases Nat.lt_or_ge k n with h2 | h2
   · exact g.many k h2
   · have : k = n := by omega
     subst this
     rw [g.at_]; exact h1
 · rcases Nat.lt_or_ge k n with h2 | h2
   · exact g.lv k h2
   · have : k = n := by omega
     subst this
     rw [g.at_, hf]
 · rcases Nat.lt_or_ge k (n + 1) with h2 | h2
   · exact g.kn k (by omega) u hu
   · have : k = n + 1 := by omega
     subst this
     rw [en] at hu
     exact hk u hu
def Sig (K : List Ent) (bs : List Int) (x : Int) : Prop := ∃ n, ChI K bs n [x]
theorem Sig.more {K : List Ent} {bs : List Int} {x : Int} (h : Sig K bs x) (hD : DOk K) (M : List Ent) (hD' : DOk (K ++ M)) : Sig (K ++ M) bs x := by
 obtain ⟨n, h⟩ := h
 exact ⟨n, h.more hD M hD'⟩
theorem Sig.uniq {K : List Ent} {bs : List Int} {x y : Int} (h : Sig K bs x) (g : Sig K bs y) : x = y := by
 obtain ⟨n, h⟩ := h
 obtain ⟨m, g⟩ := g
 have hn := h.at_
 have hm := g.at_
 rcases Nat.lt_trichotomy n m with a | a | a
 · have := g.many n a
   rw [hn] at this
   simp at this
 · subst a
   rw [hn] at hm
   simpa using hm
 · have := h.many m a
   rw [hm] at this
   simp at this
end Go.Proofs.YtgldjpldldknoaaGreatDoor

/- The walks of keys.Key, Level, New and of signature.New, Store, Keys, Top. -/
import Derived.Test.YtodmpcnpedpheaaDoorQKw4
import Derived.Test.YtodmpcnpedpheaaDoorQCon
set_option linter.unusedSimpArgs false
set_option linter.unusedVariables false
namespace Go.Proofs.YtodmpcnpedpheaaDoor
open Go.RowKit

/-- A call that answers a value and may fill the table. -/
def KyPost (B : Nat) (w : World) (pp tp p mb : Nat) (most : Int) (L : List Ent) (v : Value) (e : Ending) (w' : World) : Prop :=
  ∃ T', e = .returned v ∧ Pq B w' pp tp p mb most L T' ∧ Kx B mb w w'

set_option maxRecDepth 100000 in
set_option maxHeartbeats 400000 in
theorem keys_Key {B : Nat} {w : World} {pp tp p mb : Nat} {most : Int} {L : List Ent} {T : List KRow} (h : Pq B w pp tp p mb most L T) (id : Int) (hk : isKnown L id) (h0 : id ≠ 0) :
    Calls Tryd.prog 36 #[.pointer (some ⟨tp, 0, none⟩), .int .i64 id] w (KyPost B w pp tp p mb most L (.tuple #[.int .u64 (kkey L id), .nilIface])) := by
  have C1 := Lib.hid (keys_row h id hk h0)
  obtain ⟨k3, hk3⟩ : ∃ z, kkey L id = z := ⟨_, rfl⟩
  obtain ⟨k4, hk4⟩ : ∃ z, klev L id = z := ⟨_, rfl⟩
  have HK3 := Lib.hid hk3
  have HK4 := Lib.hid hk4
  rw [hk3]
  clear hk3 hk4 h hk h0
  go_enter Tryd.func36, Tryd.ntmps36
  go_wp2_with fail
  refine C1.out.mono ?_
  rintro e w1 ⟨T1, rfl, hp, hx⟩
  rw [HK3.out, HK4.out]
  have hp2 := Lib.hid (hp.kept0 ((Fr0.refl w1).alloc (.cells #[.int .u64 k3, .int .i64 k4, .bool true] 122 (0, 0))))
  have hx2 := Lib.hid (Ks.alloc hx (.cells #[.int .u64 k3, .int .i64 k4, .bool true] 122 (0, 0)))
  clear hp hx C1
  go_wp2_with fail
  go_ret2
  exact ⟨T1, rfl, hp2.out, hx2.out⟩

set_option maxRecDepth 100000 in
set_option maxHeartbeats 400000 in
theorem keys_Level {B : Nat} {w : World} {pp tp p mb : Nat} {most : Int} {L : List Ent} {T : List KRow} (h : Pq B w pp tp p mb most L T) (id : Int) (hk : isKnown L id) (h0 : id ≠ 0) (hl : 0 ≤ klev L id) :
    Calls Tryd.prog 43 #[.pointer (some ⟨tp, 0, none⟩), .int .i64 id] w (KyPost B w pp tp p mb most L (.tuple #[.int .i64 (klev L id), .nilIface])) := by
  have C1 := Lib.hid (keys_row h id hk h0)
  obtain ⟨k3, hk3⟩ : ∃ z, kkey L id = z := ⟨_, rfl⟩
  obtain ⟨k4, hk4⟩ : ∃ z, klev L id = z := ⟨_, rfl⟩
  have HK3 := Lib.hid hk3
  have HK4 := Lib.hid hk4
  rw [hk4] at hl ⊢
  have q1 : decide (k4 < 0) = false := decide_eq_false (by omega)
  clear hk3 hk4 h hk h0
  go_enter Tryd.func43, Tryd.ntmps43
  go_wp2_with fail
  refine C1.out.mono ?_
  rintro e w1 ⟨T1, rfl, hp, hx⟩
  rw [HK3.out, HK4.out]
  have hp2 := Lib.hid (hp.kept0 ((Fr0.refl w1).alloc (.cells #[.int .u64 k3, .int .i64 k4, .bool true] 122 (0, 0))))
  have hx2 := Lib.hid (Ks.alloc hx (.cells #[.int .u64 k3, .int .i64 k4, .bool true] 122 (0, 0)))
  clear hp hx C1
  go_wp2_with fail
  go_ret2
  exact ⟨T1, rfl, hp2.out, hx2.out⟩

set_option maxRecDepth 100000 in
set_option maxHeartbeats 400000 in
theorem keys_Level_no {B : Nat} {w : World} {pp tp p mb : Nat} {most : Int} {L : List Ent} {T : List KRow} (h : Pq B w pp tp p mb most L T) (id : Int) (hk : isKnown L id) (h0 : id ≠ 0) (hl : klev L id < 0) :
    Calls Tryd.prog 43 #[.pointer (some ⟨tp, 0, none⟩), .int .i64 id] w (KyPost B w pp tp p mb most L (.tuple #[.int .i64 0, errV 4])) := by
  have C1 := Lib.hid (keys_row h id hk h0)
  obtain ⟨k3, hk3⟩ : ∃ z, kkey L id = z := ⟨_, rfl⟩
  obtain ⟨k4, hk4⟩ : ∃ z, klev L id = z := ⟨_, rfl⟩
  have HK3 := Lib.hid hk3
  have HK4 := Lib.hid hk4
  rw [hk4] at hl
  have q1 : decide (k4 < 0) = true := decide_eq_true (by omega)
  clear hk3 hk4 h hk h0
  go_enter Tryd.func43, Tryd.ntmps43
  go_wp2_with fail
  refine C1.out.mono ?_
  rintro e w1 ⟨T1, rfl, hp, hx⟩
  rw [HK3.out, HK4.out]
  have hp2 := Lib.hid (hp.kept0 ((Fr0.refl w1).alloc (.cells #[.int .u64 k3, .int .i64 k4, .bool true] 122 (0, 0))))
  have hx2 := Lib.hid (Ks.alloc hx (.cells #[.int .u64 k3, .int .i64 k4, .bool true] 122 (0, 0)))
  clear hp hx C1
  go_wp2_with fail
  go_ret2
  exact ⟨T1, rfl, hp2.out, hx2.out⟩

set_option maxRecDepth 100000 in
set_option maxHeartbeats 400000 in
theorem keys_New (p : Nat) (w : World) :
    Calls Tryd.prog 22 #[.pointer (some ⟨p, 0, none⟩)] w fun e w' => e = .returned (.pointer (some ⟨w.heap.size, 0, none⟩)) ∧ w' = w.alloc (.cells #[.pointer (some ⟨p, 0, none⟩), .slice none 0 0] 95 (0, 0)) := by
  go_enter Tryd.func22, Tryd.ntmps22
  go_wp2_with fail
  go_ret
  exact ⟨rfl, rfl⟩

set_option maxRecDepth 100000 in
set_option maxHeartbeats 400000 in
theorem sig_New {B : Nat} {w : World} {p mb : Nat} {most : Int} {L : List Ent} (hS : Sto B w p mb most L) (hO : SOk L) (hD : DOk L) (hU : Uq L) (hb : B ≤ w.heap.size) (hdeb : Deb B w) (hbig : L.length ≤ 1000000) :
    Calls Tryd.prog 14 #[.pointer (some ⟨p, 0, none⟩)] w fun e w' => ∃ pp tp, e = .returned (.pointer (some ⟨pp, 0, none⟩)) ∧ Pq B w' pp tp p mb most L [] ∧ Fr0 w w' := by
  have C1 := Lib.hid (keys_New p w)
  obtain ⟨W1, hW1⟩ : ∃ W, w.alloc (.cells #[.pointer (some ⟨p, 0, none⟩), .slice none 0 0] 95 (0, 0)) = W := ⟨_, rfl⟩
  have F1 : Fr0 w W1 := by rw [← hW1]; exact (Fr0.refl w).alloc _
  have b1 : W1.heap[w.heap.size]? = some (.cells #[.pointer (some ⟨p, 0, none⟩), .slice none 0 0] 95 (0, 0)) := by rw [← hW1]; exact alloc_at _ _ _ rfl
  rw [hW1] at C1
  have HX : Hid (∀ W, W = W1.alloc (.cells #[.pointer (some ⟨p, 0, none⟩), .pointer (some ⟨w.heap.size, 0, none⟩)] 53 (0, 0)) → Pq B W W1.heap.size w.heap.size p mb most L [] ∧ Fr0 w W) := by
    intro W hW
    subst hW
    have F2 := F1.alloc (.cells #[.pointer (some ⟨p, 0, none⟩), .pointer (some ⟨w.heap.size, 0, none⟩)] 53 (0, 0))
    refine ⟨⟨hS.kept0 F2, alloc_at _ _ _ rfl, Nat.le_trans hb (Fr.size F1), ⟨hb, _, ((Fr0.refl W1).alloc _).kept b1, World.ownsRow_nil _ _ _ _⟩, TabOk.nil L, Nat.zero_le _, hO, hD, hU, Nat.le_trans hb (Fr.size F2), hdeb.low (fun k h1 h2 => F2.block k h2 id), hbig⟩, F2⟩
  clear hW1 F1 b1 hS hO hD hU hb hdeb
  go_enter Tryd.func14, Tryd.ntmps14
  go_wp2_with fail
  refine C1.out.mono ?_
  rintro e w1 ⟨rfl, rfl⟩
  go_wp2_with fail
  go_ret
  exact ⟨_, _, rfl, HX.out _ rfl⟩

set_option maxRecDepth 100000 in
set_option maxHeartbeats 400000 in
theorem sig_Store {B : Nat} {w : World} {pp tp p mb : Nat} {most : Int} {L : List Ent} {T : List KRow} (h : Pq B w pp tp p mb most L T) :
    Calls Tryd.prog 8 #[.pointer (some ⟨pp, 0, none⟩)] w fun e w' => e = .returned (.pointer (some ⟨p, 0, none⟩)) ∧ w = w' := by
  obtain ⟨c0, c1, lp⟩ := h.front
  clear h
  go_enter Tryd.func8, Tryd.ntmps8
  go_wp2_with fail
  go_ret
  exact ⟨rfl, rfl⟩

set_option maxRecDepth 100000 in
set_option maxHeartbeats 400000 in
theorem sig_Keys {B : Nat} {w : World} {pp tp p mb : Nat} {most : Int} {L : List Ent} {T : List KRow} (h : Pq B w pp tp p mb most L T) :
    Calls Tryd.prog 75 #[.pointer (some ⟨pp, 0, none⟩)] w fun e w' => e = .returned (.pointer (some ⟨tp, 0, none⟩)) ∧ w = w' := by
  obtain ⟨c0, c1, lp⟩ := h.front
  clear h
  go_enter Tryd.func75, Tryd.ntmps75
  go_wp2_with fail
  go_ret
  exact ⟨rfl, rfl⟩

/-- What Top answers of a known ID. -/
def topV (L : List Ent) (id : Int) : Value := if id = 0 then .tuple #[.int .i64 0, .nilIface] else if 0 ≤ klev L id then .tuple #[.int .i64 (klev L id), .nilIface] else .tuple #[.int .i64 0, errV 4]

set_option maxRecDepth 100000 in
set_option maxHeartbeats 400000 in
theorem sig_Top {B : Nat} {w : World} {pp tp p mb : Nat} {most : Int} {L : List Ent} {T : List KRow} (h : Pq B w pp tp p mb most L T) (id : Int) (hk : isKnown L id) :
    Calls Tryd.prog 29 #[.pointer (some ⟨pp, 0, none⟩), .int .i64 id] w (KyPost B w pp tp p mb most L (topV L id)) := by
  obtain ⟨c0, c1, lp⟩ := h.front
  have HP := Lib.hid h
  by_cases h0 : id = 0
  · subst h0
    have HV : Hid (topV L 0 = .tuple #[.int .i64 0, .nilIface]) := by show _ = _; unfold topV; rw [if_pos rfl]
    clear h hk
    go_enter Tryd.func29, Tryd.ntmps29
    go_wp2_with fail
    go_ret2
    exact ⟨T, congrArg Ending.returned HV.out.symm, HP.out, Ks.refl _ _ _ _⟩
  · have q1 : (id == 0) = false := beq_eq_false_iff_ne.2 h0
    by_cases hl : 0 ≤ klev L id
    · have HV : Hid (topV L id = .tuple #[.int .i64 (klev L id), .nilIface]) := by show _ = _; unfold topV; rw [if_neg h0, if_pos hl]
      have C1 := Lib.hid (keys_Level h id hk h0 hl)
      generalize klev L id = kl at *
      clear h hk hl h0
      go_enter Tryd.func29, Tryd.ntmps29
      go_wp2_with fail
      refine C1.out.mono ?_
      rintro e w1 ⟨T1, rfl, hp, hx⟩
      go_wp2_with fail
      go_ret2
      exact ⟨T1, congrArg Ending.returned HV.out.symm, hp, hx⟩
    · have HV : Hid (topV L id = .tuple #[.int .i64 0, errV 4]) := by show _ = _; unfold topV; rw [if_neg h0, if_neg hl]
      have C1 := Lib.hid (keys_Level_no h id hk h0 (by omega))
      clear h hk hl h0
      go_enter Tryd.func29, Tryd.ntmps29
      go_wp2_with fail
      refine C1.out.mono ?_
      rintro e w1 ⟨T1, rfl, hp, hx⟩
      go_wp2_with fail
      go_ret2
      exact ⟨T1, congrArg Ending.returned HV.out.symm, hp, hx⟩

end Go.Proofs.YtodmpcnpedpheaaDoor

/- The walk of split.Cut. -/
set_option linter.unusedSimpArgs false
set_option linter.unusedVariables false
namespace Go.Proofs.YtodmpcnpedpheaaDoor
open Go.RowKit

/-- The k-th of the bounds of the parts. -/
def bnd (cs : List Int) (T : Int) (k : Nat) : Int := (0 :: (cs ++ [T])).getD k 0

theorem bnd_zero (cs : List Int) (T : Int) : bnd cs T 0 = 0 := rfl
theorem bnd_in (cs : List Int) (T : Int) (k : Nat) (h : k < cs.length) : bnd cs T (k + 1) = cs[k] := by
  unfold bnd
  rw [List.getD_cons_succ, List.getD_eq_getElem?_getD, List.getElem?_append_left h, List.getElem?_eq_getElem h]
  rfl
theorem bnd_last (cs : List Int) (T : Int) : bnd cs T (cs.length + 1) = T := by
  unfold bnd
  rw [List.getD_cons_succ, List.getD_eq_getElem?_getD, List.getElem?_append_right (Nat.le_refl _)]
  simp

/-- The bounds do not decrease. -/
def Incr (cs : List Int) (T : Int) : Prop := ∀ k, k ≤ cs.length → bnd cs T k ≤ bnd cs T (k + 1)

theorem Incr.nn {cs : List Int} {T : Int} (h : Incr cs T) : ∀ k, k ≤ cs.length + 1 → 0 ≤ bnd cs T k
  | 0, _ => Int.le_refl _
  | k + 1, hk => by have := h.nn k (by omega); have := h k (by omega); omega
theorem Incr.up {cs : List Int} {T : Int} (h : Incr cs T) : ∀ (j k : Nat), k + j = cs.length + 1 → bnd cs T k ≤ T
  | 0, k, hk => by
    have : k = cs.length + 1 := by omega
    subst this
    rw [bnd_last]; exact Int.le_refl _
  | j + 1, k, hk => by
    have := h.up j (k + 1) (by omega)
    have := h k (by omega)
    omega

/-- The parts of a text. -/
def pieces (t : List Int) (cs : List Int) : List (List Int) := (List.range (cs.length + 1)).map fun k => cutL t (bnd cs t.length k) (bnd cs t.length (k + 1) - bnd cs t.length k)

theorem pieces_len (t cs : List Int) : (pieces t cs).length = cs.length + 1 := by simp [pieces]
theorem pieces_take (t cs : List Int) (k : Nat) (h : k ≤ cs.length) : (pieces t cs).take (k + 1) = (pieces t cs).take k ++ [cutL t (bnd cs t.length k) (bnd cs t.length (k + 1) - bnd cs t.length k)] := by
  rw [List.take_succ_eq_append_getElem (by rw [pieces_len]; omega)]
  simp [pieces]

/-- What Cut leaves. -/
def CPost (B : Nat) (w : World) (p mb : Nat) (most : Int) (L : List Ent) (ts : List (List Int)) (N : Nat) (e : Ending) (w' : World) : Prop :=
  ∃ L' out v k, e = .returned (.tuple #[v, .nilIface]) ∧ Sto B w' p mb most L' ∧ Kp B mb w w' ∧ Grows L L' k ∧ k ≤ N ∧ w'.ownsRow w.heap.size 26 1 v out.length (out.map fun x => Value.int .i64 x) ∧ AllB L' out ts

/-- The state of Cut's second loop. -/
structure CutR (B : Nat) (w wr : World) (p mb : Nat) (most : Int) (L : List Ent) (ts : List (List Int)) (N : Nat) (v : Value) (L' : List Ent) (out : List Int) : Prop where
  st : Sto B wr p mb most L'
  kp : Kp B mb w wr
  grows : Grows L L' N
  own : wr.ownsRow w.heap.size 26 1 v out.length (out.map fun x => Value.int .i64 x)
  all : AllB L' out ts

end Go.Proofs.YtodmpcnpedpheaaDoor

/- Lists of structs in memory, for any struct: reading and append. -/
set_option linter.unusedSimpArgs false
set_option linter.unusedVariables false
namespace Go.Proofs.YtodmpcnpedpheaaDoor
open Go.RowKit

/-- The elements can be read at an address; their block lies below B, or is none of a store's. -/
def RG {α : Type} (vals : α → List Value) (size B : Nat) (w : World) (a : Option Addr) (xs : List α) : Prop :=
  ∀ i (h : i < xs.length), ∃ b off, a = some ⟨b, off, none⟩ ∧ b < w.heap.size ∧ (b < B ∨ ∃ cs t fr, w.heap[b]? = some (Obj.cells cs t fr) ∧ t ≠ 57 ∧ t ≠ 114) ∧
    ∀ j u, (vals xs[i])[j]? = some u → w.cell? ⟨b, off + i * size + j, none⟩ = some u

theorem RG.nil {α : Type} (vals : α → List Value) (size B : Nat) (w : World) (a : Option Addr) : RG vals size B w a [] := fun i h => by simp at h

theorem RG.kept0 {α : Type} {vals : α → List Value} {size B : Nat} {w w' : World} {a : Option Addr} {xs : List α} (h : RG vals size B w a xs) (hf : Fr0 w w') : RG vals size B w' a xs := by
  intro i hi
  obtain ⟨b, off, h1, h2, h3, h4⟩ := h i hi
  refine ⟨b, off, h1, by have := Fr.size hf; omega, ?_, fun j u hj => (hf.cell b _ h2).trans (h4 j u hj)⟩
  rcases h3 with h3 | ⟨cs, t, fr, g1, g2⟩
  · exact .inl h3
  · exact .inr ⟨cs, t, fr, hf.kept g1, g2⟩

theorem RG.keptK {α : Type} {vals : α → List Value} {size B mb : Nat} {w w' : World} {a : Option Addr} {xs : List α} (h : RG vals size B w a xs) (hf : Kp B mb w w') : RG vals size B w' a xs := by
  intro i hi
  obtain ⟨b, off, h1, h2, h3, h4⟩ := h i hi
  refine ⟨b, off, h1, by have := hf.size; omega, ?_, fun j u hj => ?_⟩
  · rcases h3 with h3 | ⟨cs, t, fr, g1, g2⟩
    · exact .inl h3
    · exact .inr ⟨cs, t, fr, hf.cells _ _ _ _ g1 g2.1 g2.2, g2⟩
  · rcases h3 with h3 | ⟨cs, t, fr, g1, g2⟩
    · rw [World.cell?_of_block (hf.low b h3 h2)]; exact h4 j u hj
    · have := h4 j u hj
      rw [cell_of_block g1] at this
      rw [cell_of_block (hf.cells _ _ _ _ g1 g2.1 g2.2)]; exact this

theorem RG.tail {α : Type} {vals : α → List Value} {size B : Nat} {w : World} {b off : Nat} {xs : List α} (h : RG vals size B w (some ⟨b, off, none⟩) xs) : RG vals size B w (some ⟨b, off + size, none⟩) (xs.drop 1) := by
  intro i hi
  have hi2 : 1 + i < xs.length := by rw [List.length_drop] at hi; omega
  obtain ⟨b', off', h1, h2, h3, h4⟩ := h (1 + i) hi2
  simp only [Option.some.injEq, Addr.mk.injEq, and_true] at h1
  obtain ⟨rfl, rfl⟩ := h1
  refine ⟨b, off + size, rfl, h2, h3, fun j u hj => ?_⟩
  rw [List.getElem_drop] at hj
  have := h4 j u hj
  rw [show off + size + i * size + j = off + (1 + i) * size + j by rw [Nat.add_mul, Nat.one_mul]; omega]
  exact this

/-- A slice that the call owns, read. -/
theorem rg_of_own {α : Type} {vals : α → List Value} {size B base : Nat} {T : TypeId} {w : World} {v : Value} {xs : List α} (hv : ∀ x ∈ xs, (vals x).length = size) (h : w.ownsRow base T size v xs.length (xs.flatMap vals)) (h1 : T ≠ 57) (h2 : T ≠ 114) :
    ∃ a cap, v = .slice a xs.length cap ∧ RG vals size B w a xs := by
  rcases h.2 with ⟨e1, e2⟩ | ⟨g, cap, cur, e1, _, hg, _, _, _, ht⟩
  · have : xs = [] := List.eq_nil_of_length_eq_zero e2
    subst this
    exact ⟨none, 0, e1, RG.nil _ _ _ _ _⟩
  · refine ⟨_, cap, e1, fun i hi => ⟨g, 0, rfl, lt_of_block hg, .inr ⟨cur, T, (0, 0), hg, h1, h2⟩, fun j u hj => ?_⟩⟩
    have hjs : j < size := by
      have := (List.getElem?_eq_some_iff.1 hj).1
      rw [hv _ (List.getElem_mem hi)] at this
      exact this
    have e := flat_get vals size xs hv i j hjs _ (List.getElem?_eq_getElem hi)
    have hlt : i * size + j < xs.length * size := by
      have : (i + 1) * size ≤ xs.length * size := Nat.mul_le_mul_right _ hi
      rw [Nat.add_mul, Nat.one_mul] at this
      omega
    have h3 := congrArg (fun l => l[i * size + j]?) ht
    rw [List.getElem?_take_of_lt (by omega)] at h3
    rw [cell_of_block hg, Nat.zero_add, ← Array.getElem?_toList, h3, e, hj]

/-- One element more in a slice of the call's own. -/
theorem wpList_pushG {α : Type} {vals : α → List Value} {ST T : TypeId} {size bytes : Nat} (hT : RT ST T size bytes) {w : World} {ops : Array Oper} {rest : List Oper} {o : Oper} {a : Act} {Q : Exit → Act → World → Prop} (hgd : o.guard = none) (s x : Operand)
    (ho : o.op = .call { callee := .builtin .append, args := #[s, x], argTypes := #[ST, ST] })
    (base : Nat) (v : Value) (xs : List α) (hs : a.eval s = v) (hown : w.ownsRow base T size v xs.length (xs.flatMap vals)) (hb : base ≤ w.heap.size) (T' : TypeId) (y : α) (cs : Array Value) (hcs : cs.toList = vals y) (hy : (vals y).length = size) (h1 : ∀ u ∈ vals y, u.oneCell' = true)
    (c H : Nat) (hH : w.heap.size = H) (hx : a.eval x = .slice (some ⟨H, 0, none⟩) 1 c) (hbytes : bytes ≤ 100) (hlen : xs.length ≤ 1000000)
    (h : ∀ v' w', w'.ownsRow base T size v' (xs ++ [y]).length ((xs ++ [y]).flatMap vals) → (w.alloc (.cells cs T' (0, 0))).grownBy w' v.ownBlock → (v'.ownBlock = v.ownBlock ∨ v'.ownBlock = some (w.heap.size + 1)) → wpList Tryd.prog ops Q rest (a.put o.dst v') w') :
    wpList Tryd.prog ops Q (o :: rest) a (w.alloc (.cells cs T' (0, 0))) := by
  subst hH
  have hby : (xs.length + 1) * bytes ≤ 140737488355328 := by
    have : (xs.length + 1) * bytes ≤ 1000001 * 100 := Nat.mul_le_mul (by omega) hbytes
    omega
  have hsrc : SrcAt (w.alloc (.cells cs T' (0, 0))) (.slice (some ⟨w.heap.size, 0, none⟩) 1 c) 1 (vals y) := by
    refine .inr ⟨_, c, rfl, fun j u hj => ?_⟩
    have h := World.news_of_block (cs := cs) (t := T') (fr := (0, 0)) (heap_alloc_new w (.cells cs T' (0, 0)))
    rw [← hcs] at hj
    exact h j u hj
  refine wpList_append_rt hT hgd s x ho base v xs.length _ hs (hown.alloc _) _ 1 (vals y) hx hsrc (by rw [hy]; omega) h1 (by unfold maxLen; omega) hby (by simp; omega) ?_
  intro v' w' h1 h2 h3
  exact h v' w' (by simpa using h1) h2 (by simpa using h3)

/-- A store's list of IDs as integers. -/
theorem ints_of_rg {B : Nat} {w : World} {a : Option Addr} {xs : List Int} (h : RG (fun x => [Value.int .i64 x]) 1 B w a xs) : ∀ i (hi : i < xs.length), ∃ b off, a = some ⟨b, off, none⟩ ∧ b < w.heap.size ∧ w.cell? ⟨b, off + i, none⟩ = some (.int .i64 xs[i]) := by
  intro i hi
  obtain ⟨b, off, h1, h2, _, h4⟩ := h i hi
  have := h4 0 _ rfl
  rw [Nat.mul_one, Nat.add_zero] at this
  exact ⟨b, off, h1, h2, this⟩

end Go.Proofs.YtodmpcnpedpheaaDoor

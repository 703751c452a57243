/- Plain words: the entries that a store adds, and what holds of all entries. No program. -/
import Derived.Test.YtodmpcnpedpheaaDoorQBase
import Derived.Test.YtodmpcnpedpheaaDoorChecked
import Derived.Lib.Mul64
import Derived.Laws.Bits64b
set_option linter.unusedSimpArgs false
set_option linter.unusedVariables false
namespace Go.Proofs.YtodmpcnpedpheaaDoor
open Go.RowKit

/-- What is known of an ID. -/
def entAt (L : List Ent) (id : Int) : Ent := if id = 0 then ⟨⟨0, 0, 0, 0, 0⟩, Wt.unit, 0, true⟩ else L.getD (id - 1).toNat ⟨⟨0, 0, 0, 0, 0⟩, Wt.unit, 0, true⟩
def isKnown (L : List Ent) (id : Int) : Prop := 0 ≤ id ∧ id ≤ L.length

theorem entAt_zero (L : List Ent) : entAt L 0 = ⟨⟨0, 0, 0, 0, 0⟩, Wt.unit, 0, true⟩ := rfl
theorem entAt_succ (L : List Ent) (k : Nat) (h : k < L.length) : entAt L ((k : Int) + 1) = L[k] := by
  unfold entAt
  rw [if_neg (by omega), show ((k : Int) + 1 - 1).toNat = k by omega, List.getD_eq_getElem?_getD, List.getElem?_eq_getElem h]
  rfl

theorem entAt_append (L M : List Ent) (id : Int) (h : isKnown L id) : entAt (L ++ M) id = entAt L id := by
  unfold entAt
  by_cases h0 : id = 0
  · simp [h0]
  · rw [if_neg h0, if_neg h0]
    obtain ⟨h1, h2⟩ := h
    rw [List.getD_eq_getElem?_getD, List.getD_eq_getElem?_getD, List.getElem?_append_left (by omega)]

theorem isKnown_append {L : List Ent} {id : Int} (M : List Ent) (h : isKnown L id) : isKnown (L ++ M) id := ⟨h.1, by have := h.2; simp; omega⟩

/-- The list and the ID after an entry has been asked for. -/
def addL (L : List Ent) (e : Ent) : List Ent := match ruleIdx e.rule L with | some _ => L | none => L ++ [e]
def addI (L : List Ent) (e : Ent) : Int := match ruleIdx e.rule L with | some j => (j : Int) + 1 | none => (L.length : Int) + 1

theorem addL_some {L : List Ent} {e : Ent} {j : Nat} (h : ruleIdx e.rule L = some j) : addL L e = L := by simp [addL, h]
theorem addL_none {L : List Ent} {e : Ent} (h : ruleIdx e.rule L = none) : addL L e = L ++ [e] := by simp [addL, h]
theorem addI_some {L : List Ent} {e : Ent} {j : Nat} (h : ruleIdx e.rule L = some j) : addI L e = (j : Int) + 1 := by simp [addI, h]
theorem addI_none {L : List Ent} {e : Ent} (h : ruleIdx e.rule L = none) : addI L e = (L.length : Int) + 1 := by simp [addI, h]

theorem ruleIdx_lt {r : Rl} {L : List Ent} {j : Nat} (h : ruleIdx r L = some j) : ∃ hj : j < L.length, L[j].rule = r := by
  unfold ruleIdx at h
  obtain ⟨hj, h1, _⟩ := List.findIdx?_eq_some_iff_getElem.1 h
  exact ⟨hj, (by simpa using h1 : r = L[j].rule).symm⟩

def letterEnt (b : Int) : Ent := ⟨⟨1, b, 0, 0, 0⟩, Wt.letter b, 0, true⟩
def pairEnt (L : List Ent) (l r : Int) : Ent :=
  ⟨⟨2, 0, l, r, 0⟩, (entAt L l).wt.join (entAt L r).wt, 1 + max (entAt L l).depth (entAt L r).depth,
    (entAt L l).even && (entAt L r).even && decide (-1 ≤ (entAt L l).depth - (entAt L r).depth) && decide ((entAt L l).depth - (entAt L r).depth ≤ 1)⟩
def powEnt (L : List Ent) (x k : Int) : Ent := ⟨⟨3, 0, x, 0, k⟩, (entAt L x).wt.rep k, 1 + (entAt L x).depth, false⟩

/-- What holds of every entry of a store. -/
def SOk (L : List Ent) : Prop := ∀ (i : Nat) (h : i < L.length), WOk L[i].wt ∧ 1 ≤ L[i].wt.len ∧ 0 ≤ L[i].depth ∧ L[i].depth ≤ i

theorem SOk.nil : SOk [] := fun i h => by simp at h

theorem SOk.at {L : List Ent} (h : SOk L) (id : Int) (hk : isKnown L id) : WOk (entAt L id).wt ∧ 0 ≤ (entAt L id).depth ∧ (entAt L id).depth ≤ L.length ∧ (id ≠ 0 → 1 ≤ (entAt L id).wt.len ∧ (entAt L id).depth + 1 ≤ L.length) := by
  by_cases h0 : id = 0
  · subst h0
    exact ⟨WOk.unit, Int.le_refl _, by show (0 : Int) ≤ _; omega, fun h => absurd rfl h⟩
  · obtain ⟨k, rfl⟩ : ∃ k : Nat, id = (k : Int) + 1 := ⟨(id - 1).toNat, by have := hk.1; omega⟩
    have hlt : k < L.length := by have := hk.2; omega
    rw [entAt_succ L k hlt]
    obtain ⟨h1, h2, h3, h4⟩ := h k hlt
    exact ⟨h1, h3, by omega, fun _ => ⟨h2, by omega⟩⟩

theorem SOk.push {L : List Ent} (h : SOk L) (e : Ent) (h1 : WOk e.wt) (h2 : 1 ≤ e.wt.len) (h3 : 0 ≤ e.depth) (h4 : e.depth ≤ L.length) : SOk (L ++ [e]) := by
  intro i hi
  rcases Nat.lt_or_ge i L.length with hlt | hge
  · rw [List.getElem_append_left hlt]; exact h i hlt
  · have : i = L.length := by simp at hi; omega
    subst this
    rw [List.getElem_append_right (Nat.le_refl _)]
    simp
    exact ⟨h1, h2, h3, h4⟩

theorem SOk.add {L : List Ent} (h : SOk L) (e : Ent) (h1 : WOk e.wt) (h2 : 1 ≤ e.wt.len) (h3 : 0 ≤ e.depth) (h4 : e.depth ≤ L.length) : SOk (addL L e) := by
  cases hj : ruleIdx e.rule L with
  | some j => rw [addL_some hj]; exact h
  | none => rw [addL_none hj]; exact h.push e h1 h2 h3 h4

theorem SOk.letter {L : List Ent} (h : SOk L) (b : Int) (h0 : 0 ≤ b) (h1 : b < 256) : SOk (addL L (letterEnt b)) :=
  h.add _ (WOk.letter b h0 h1) (by show 1 ≤ (Wt.letter b).len; unfold Wt.letter; split <;> simp) (Int.le_refl _) (by show (0 : Int) ≤ _; omega)

theorem SOk.pair {L : List Ent} (h : SOk L) (l r : Int) (hl : isKnown L l) (hr : isKnown L r) (l0 : l ≠ 0) (r0 : r ≠ 0) (hm : (entAt L l).wt.len + (entAt L r).wt.len ≤ 1152921504606846976) : SOk (addL L (pairEnt L l r)) := by
  obtain ⟨a1, a2, a3, a4⟩ := h.at l hl
  obtain ⟨b1, b2, b3, b4⟩ := h.at r hr
  have := a4 l0
  have := b4 r0
  refine h.add _ (WOk.join a1 b1 hm) ?_ ?_ ?_
  · show 1 ≤ (entAt L l).wt.len + (entAt L r).wt.len; omega
  · show 0 ≤ 1 + max (entAt L l).depth (entAt L r).depth; omega
  · show 1 + max (entAt L l).depth (entAt L r).depth ≤ _; omega

theorem SOk.pow {L : List Ent} (h : SOk L) (x k : Int) (hx : isKnown L x) (x0 : x ≠ 0) (hk : 2 ≤ k) (hm : (entAt L x).wt.len * k ≤ 1152921504606846976) : SOk (addL L (powEnt L x k)) := by
  obtain ⟨a1, a2, a3, a4⟩ := h.at x hx
  have := a4 x0
  refine h.add _ (WOk.rep a1 k (by omega) hm this.1) ?_ ?_ ?_
  · show 1 ≤ (entAt L x).wt.len * k
    have := Int.mul_le_mul_of_nonneg_left (show (1 : Int) ≤ k by omega) (show 0 ≤ (entAt L x).wt.len by omega)
    omega
  · show 0 ≤ 1 + (entAt L x).depth; omega
  · show 1 + (entAt L x).depth ≤ _; omega

theorem addL_len (L : List Ent) (e : Ent) : L.length ≤ (addL L e).length ∧ (addL L e).length ≤ L.length + 1 := by
  cases hj : ruleIdx e.rule L with
  | some j => rw [addL_some hj]; omega
  | none => rw [addL_none hj]; simp

theorem addL_ext (L : List Ent) (e : Ent) : ∃ M, addL L e = L ++ M := by
  cases hj : ruleIdx e.rule L with
  | some j => exact ⟨[], by rw [addL_some hj]; simp⟩
  | none => exact ⟨[e], addL_none hj⟩

theorem addI_known (L : List Ent) (e : Ent) : isKnown (addL L e) (addI L e) ∧ addI L e ≠ 0 := by
  cases hj : ruleIdx e.rule L with
  | some j =>
    obtain ⟨h1, _⟩ := ruleIdx_lt hj
    rw [addL_some hj, addI_some hj]
    exact ⟨⟨by omega, by omega⟩, by omega⟩
  | none =>
    rw [addL_none hj, addI_none hj]
    exact ⟨⟨by omega, by simp⟩, by omega⟩

end Go.Proofs.YtodmpcnpedpheaaDoor

/- The walks of math/bits.Mul64 (after the library's own worked proof) and of package modular. -/
set_option linter.unusedSimpArgs false
set_option linter.unusedVariables false
namespace Go.Proofs.YtodmpcnpedpheaaDoor
open Go.RowKit Go.Lib

namespace M64
theorem maskN (a : Nat) (ha : a < 18446744073709551616) : bits .and .u64 (a : Int) 4294967295 = ((a % 4294967296 : Nat) : Int) := by
  have h := bits_and_u64_nat a 4294967295 ha (by omega)
  have e : a &&& 4294967295 = a % 4294967296 := Nat.and_two_pow_sub_one_eq_mod a 32
  rw [e] at h
  exact h
theorem maskP (a : Nat) (ha : a < 18446744073709551616) : bits .and .u64 (a : Int) 2305843009213693951 = ((a % 2305843009213693952 : Nat) : Int) := by
  have h := bits_and_u64_nat a 2305843009213693951 ha (by omega)
  have e : a &&& 2305843009213693951 = a % 2305843009213693952 := Nat.and_two_pow_sub_one_eq_mod a 61
  rw [e] at h
  exact h
theorem divN (a : Nat) : (a : Int) / 4294967296 = ((a / 4294967296 : Nat) : Int) := by omega
theorem mulN (a b : Nat) : (a : Int) * (b : Int) = ((a * b : Nat) : Int) := (Int.natCast_mul a b).symm
theorem addN (a b : Nat) : (a : Int) + (b : Int) = ((a + b : Nat) : Int) := (Int.natCast_add a b).symm
theorem wrapN (a : Nat) (ha : a < 18446744073709551616) : IntKind.u64.wrap (a : Int) = (a : Int) := by rw [IntKind.wrap_u64]; omega
theorem wrapM (a : Nat) : IntKind.u64.wrap (a : Int) = ((a % 18446744073709551616 : Nat) : Int) := by rw [IntKind.wrap_u64]; omega
end M64

set_option maxHeartbeats 1000000 in
theorem bits_Mul64 (x y : Nat) (hx : x < 18446744073709551616) (hy : y < 18446744073709551616) (w : World) :
    Calls Tryd.prog 94 #[.int .u64 x, .int .u64 y] w fun e w' => e = .returned (.tuple #[.int .u64 ((x * y / 18446744073709551616 : Nat) : Int), .int .u64 ((x * y % 18446744073709551616 : Nat) : Int)]) ∧ w = w' := by
  obtain ⟨bd, bt, bw, hhi⟩ := Lib.mul64_hi x y hx hy
  have ba := Lib.half_mul_le (a := x / 4294967296) (b := y / 4294967296) (by omega) (by omega)
  have bb := Lib.half_mul_le (a := x / 4294967296) (b := y % 4294967296) (by omega) (by omega)
  have bc := Lib.half_mul_le (a := x % 4294967296) (b := y / 4294967296) (by omega) (by omega)
  have ba' : x / 4294967296 * (y / 4294967296) < 18446744073709551616 := by omega
  have bb' : x / 4294967296 * (y % 4294967296) < 18446744073709551616 := by omega
  have bc' : x % 4294967296 * (y / 4294967296) < 18446744073709551616 := by omega
  have bh1 : x / 4294967296 * (y / 4294967296) + (x / 4294967296 * (y % 4294967296) + x % 4294967296 * (y % 4294967296) / 4294967296) / 4294967296 < 18446744073709551616 := by omega
  have bh : x / 4294967296 * (y / 4294967296) + (x / 4294967296 * (y % 4294967296) + x % 4294967296 * (y % 4294967296) / 4294967296) / 4294967296 + ((x / 4294967296 * (y % 4294967296) + x % 4294967296 * (y % 4294967296) / 4294967296) % 4294967296 + x % 4294967296 * (y / 4294967296)) / 4294967296 < 18446744073709551616 := by omega
  go_enter Tryd.func94, Tryd.ntmps94
  go_wp2
  simp only [M64.maskN x hx, M64.maskN y hy, M64.divN, M64.mulN, M64.addN, M64.wrapN _ bd, M64.wrapN _ bb', M64.wrapN _ bt, M64.maskN _ bt, M64.wrapN _ bc', M64.wrapN _ bw, M64.wrapN _ ba', M64.wrapN _ bh1, M64.wrapN _ bh, M64.wrapM (x * y)]
  rw [hhi]
  go_ret2
  exact ⟨rfl, rfl⟩

theorem ret_int {k : IntKind} {a b : Int} (h : a = b) : Ending.returned (.int k a) = .returned (.int k b) := by rw [h]

theorem maskI (x : Int) (h0 : 0 ≤ x) (hx : x < 18446744073709551616) : bits .and .u64 x 2305843009213693951 = x % 2305843009213693952 := by
  obtain ⟨n, rfl⟩ := Int.eq_ofNat_of_zero_le h0
  rw [M64.maskP n (by omega)]; omega

theorem red_lt {x s : Int} (h0 : 0 ≤ x) (hx : x < 18446744073709551616) (hs : x % 2305843009213693952 + x / 2305843009213693952 = s) (h : s < 2305843009213693951) : s = x % PP := by
  unfold PP; omega
theorem red_ge {x s : Int} (h0 : 0 ≤ x) (hx : x < 18446744073709551616) (hs : x % 2305843009213693952 + x / 2305843009213693952 = s) (h : 2305843009213693951 ≤ s) : s - 2305843009213693951 = x % PP := by
  unfold PP; omega

set_option maxRecDepth 100000 in
set_option maxHeartbeats 400000 in
theorem mod_Reduce (x : Int) (h0 : 0 ≤ x) (hx : x < 18446744073709551616) (w : World) :
    Calls Tryd.prog 92 #[.int .u64 x] w fun e w' => e = .returned (.int .u64 (x % PP)) ∧ w = w' := by
  obtain ⟨R, hR⟩ : ∃ R, x % PP = R := ⟨_, rfl⟩
  rw [hR]
  have HR := Lib.hid hR
  clear hR
  have hm := maskI x h0 hx
  go_enter Tryd.func92, Tryd.ntmps92
  iterate 30 go_step
  generalize hs : x % 2305843009213693952 + x / 2305843009213693952 = s
  have hb : s < 4611686018427387904 := by omega
  have hb0 : 0 ≤ s := by omega
  have HS := Lib.hid hs
  clear hs hm
  by_cases h : s < 2305843009213693951
  · have HE := Lib.hid (red_lt h0 hx HS.out h)
    go_wp2
    go_ret
    exact ⟨ret_int (HE.out.trans HR.out), rfl⟩
  · have HE := Lib.hid (red_ge h0 hx HS.out (by omega))
    go_wp2
    go_ret
    exact ⟨ret_int (HE.out.trans HR.out), rfl⟩

theorem pp_lt (x : Int) : 0 ≤ x % PP ∧ x % PP < 2305843009213693951 := by unfold PP; omega

theorem add_mod (a b : Int) : (a % PP + b % PP) % PP = (a + b) % PP := by rw [← Int.add_emod]

set_option maxHeartbeats 400000 in
theorem mod_Add (a b : Int) (ha : 0 ≤ a) (ha' : a < 18446744073709551616) (hb : 0 ≤ b) (hb' : b < 18446744073709551616) (w : World) :
    Calls Tryd.prog 87 #[.int .u64 a, .int .u64 b] w fun e w' => e = .returned (.int .u64 ((a + b) % PP)) ∧ w = w' := by
  obtain ⟨R, hR⟩ : ∃ R, (a + b) % PP = R := ⟨_, rfl⟩
  rw [hR]
  have h3 := add_mod a b
  have h4 := pp_lt a
  have h5 := pp_lt b
  rw [hR] at h3
  have H3 := Lib.hid h3
  clear h3 hR
  have c1 := mod_Reduce a ha ha'
  have c2 := mod_Reduce b hb hb'
  generalize a % PP = x at *
  generalize b % PP = y at *
  have C1 := Lib.hid c1
  have C2 := Lib.hid c2
  clear c1 c2
  go_enter Tryd.func87, Tryd.ntmps87
  go_wp2_with fail
  refine (C1.out _).mono ?_
  rintro e w' ⟨rfl, rfl⟩
  go_wp2_with fail
  refine (C2.out _).mono ?_
  rintro e w' ⟨rfl, rfl⟩
  go_wp2_with fail
  refine (mod_Reduce _ (by omega) (by omega) _).mono ?_
  rintro e w' ⟨rfl, rfl⟩
  go_wp2_with fail
  go_ret
  exact ⟨ret_int H3.out, rfl⟩

theorem mul_bound {a b : Int} (h1 : 0 ≤ a) (h2 : a < 2305843009213693951) (h3 : 0 ≤ b) (h4 : b < 2305843009213693951) : 0 ≤ a * b ∧ a * b < 5316911983139663487003542222693990400 := by
  refine ⟨Int.mul_nonneg h1 h3, ?_⟩
  have : a * b ≤ 2305843009213693950 * 2305843009213693950 := Int.mul_le_mul (by omega) (by omega) h3 (by omega)
  omega

theorem mul_fold {a b : Int} (h1 : 0 ≤ a) (h2 : a < 2305843009213693951) (h3 : 0 ≤ b) (h4 : b < 2305843009213693951) :
    (a * b / 18446744073709551616 * 8 + a * b % 18446744073709551616 / 2305843009213693952 + a * b % 18446744073709551616 % 2305843009213693952) % PP = a * b % PP := by
  obtain ⟨h5, h6⟩ := mul_bound h1 h2 h3 h4
  generalize a * b = x at *
  unfold PP
  omega

theorem bits_Mul64I (x y : Int) (hx0 : 0 ≤ x) (hx : x < 18446744073709551616) (hy0 : 0 ≤ y) (hy : y < 18446744073709551616) (w : World) :
    Calls Tryd.prog 94 #[.int .u64 x, .int .u64 y] w fun e w' => e = .returned (.tuple #[.int .u64 (x * y / 18446744073709551616), .int .u64 (x * y % 18446744073709551616)]) ∧ w = w' := by
  obtain ⟨n, rfl⟩ := Int.eq_ofNat_of_zero_le hx0
  obtain ⟨m, rfl⟩ := Int.eq_ofNat_of_zero_le hy0
  refine (bits_Mul64 n m (by omega) (by omega) w).mono ?_
  rintro e w' ⟨rfl, rfl⟩
  refine ⟨?_, rfl⟩
  simp only [Int.natCast_mul, Int.natCast_ediv, Int.natCast_emod]
  rfl

set_option maxRecDepth 100000 in
set_option maxHeartbeats 400000 in
theorem mod_Mul (a b : Int) (ha : 0 ≤ a) (ha' : a < 18446744073709551616) (hb : 0 ≤ b) (hb' : b < 18446744073709551616) (w : World) :
    Calls Tryd.prog 88 #[.int .u64 a, .int .u64 b] w fun e w' => e = .returned (.int .u64 (a * b % PP)) ∧ w = w' := by
  obtain ⟨R, hR⟩ : ∃ R, a * b % PP = R := ⟨_, rfl⟩
  rw [hR]
  have h4 := pp_lt a
  have h5 := pp_lt b
  have h3 := mul_fold h4.1 h4.2 h5.1 h5.2
  have h6 := mul_bound h4.1 h4.2 h5.1 h5.2
  rw [← Int.mul_emod, hR] at h3
  clear hR
  have c1 := mod_Reduce a ha ha'
  have c2 := mod_Reduce b hb hb'
  generalize a % PP = x at *
  generalize b % PP = y at *
  have c3 := bits_Mul64I x y h4.1 (by omega) h5.1 (by omega)
  generalize x * y = z at *
  have hi0 : 0 ≤ z / 18446744073709551616 := by omega
  have hi1 : z / 18446744073709551616 < 288230376151711744 := by omega
  have lo0 : 0 ≤ z % 18446744073709551616 := by omega
  have lo1 : z % 18446744073709551616 < 18446744073709551616 := by omega
  have hm := maskI (z % 18446744073709551616) lo0 lo1
  generalize z / 18446744073709551616 = hi at *
  generalize z % 18446744073709551616 = lo at *
  have H3 := Lib.hid h3
  clear h3
  have C1 := Lib.hid c1
  have C2 := Lib.hid c2
  have C3 := Lib.hid c3
  clear c1 c2 c3
  clear z h6
  go_enter Tryd.func88, Tryd.ntmps88
  go_wp2_with fail
  refine (C1.out _).mono ?_
  rintro e w' ⟨rfl, rfl⟩
  go_wp2_with fail
  refine (C2.out _).mono ?_
  rintro e w' ⟨rfl, rfl⟩
  go_wp2_with fail
  refine (C3.out _).mono ?_
  rintro e w' ⟨rfl, rfl⟩
  go_wp2_with fail
  refine (mod_Reduce _ (by omega) (by omega) _).mono ?_
  rintro e w' ⟨rfl, rfl⟩
  go_wp2_with fail
  go_ret
  exact ⟨ret_int H3.out, rfl⟩

theorem pow_odd (x y : Int) (k : Nat) (h : k % 2 = 1) : ((y * x % PP) * (x * x % PP) ^ (k / 2)) % PP = (y * x ^ k) % PP := by
  have e : x ^ k = x * (x * x) ^ (k / 2) := by
    have : k = 2 * (k / 2) + 1 := by omega
    conv => lhs; rw [this, Int.pow_succ, Int.pow_mul]
    rw [show x ^ 2 = x * x by rw [Int.pow_succ, Int.pow_succ, Int.pow_zero, Int.one_mul], Int.mul_comm]
  rw [e, Int.mul_emod, Int.emod_emod, powm, ← Int.mul_emod, Int.mul_assoc]

theorem pow_even (x y : Int) (k : Nat) (h : k % 2 = 0) : (y * (x * x % PP) ^ (k / 2)) % PP = (y * x ^ k) % PP := by
  have e : x ^ k = (x * x) ^ (k / 2) := by
    have : k = 2 * (k / 2) := by omega
    conv => lhs; rw [this, Int.pow_mul]
    rw [show x ^ 2 = x * x by rw [Int.pow_succ, Int.pow_succ, Int.pow_zero, Int.one_mul]]
  rw [e, Int.mul_emod, powm, ← Int.mul_emod]

set_option maxHeartbeats 800000 in
theorem mod_Pow (a : Int) (n : Nat) (ha : 0 ≤ a) (ha' : a < 18446744073709551616) (hn : n < 18446744073709551616) (w : World) :
    Calls Tryd.prog 84 #[.int .u64 a, .int .u64 n] w fun e w' => e = .returned (.int .u64 (a ^ n % PP)) ∧ w = w' := by
  obtain ⟨R, hR⟩ : ∃ R, a ^ n % PP = R := ⟨_, rfl⟩
  rw [hR]
  have h4 := pp_lt a
  have c1 := mod_Reduce a ha ha' w
  have hR2 : (1 * (a % PP) ^ n) % PP = R := by rw [Int.one_mul, powm, hR]
  clear hR
  generalize a % PP = x at *
  have HR := Lib.hid hR2
  have C1 := Lib.hid c1
  clear hR2 c1
  go_enter Tryd.func84, Tryd.ntmps84
  go_wp2_with fail
  refine C1.out.mono ?_
  rintro e w' ⟨rfl, rfl⟩
  clear C1
  go_wp2_with fail
  go_loop [0, 1, 5] (fun u v z => ∃ (p y : Int) (k : Nat), 0 ≤ p ∧ p < 2305843009213693951 ∧ 0 ≤ y ∧ y < 2305843009213693951 ∧ k ≤ n ∧ u = .int .u64 p ∧ v = .int .u64 k ∧ z = .int .u64 y ∧ Hid ((y * p ^ k) % PP = R)) (fun _ v _ => (intOf v).toNat)
  case atStart => exact ⟨x, 1, n, h4.1, h4.2, by omega, by omega, Nat.le_refl _, rfl, rfl, rfl, HR⟩
  case round =>
    obtain ⟨p, y, k, hp0, hp1, hy0, hy1, hk, rfl, rfl, rfl, HK⟩ := hrel
    by_cases hk0 : 0 < k
    · by_cases ho : k % 2 = 1
      · have e1 := pow_odd p y k ho
        have b1 := pp_lt (y * p)
        have b2 := pp_lt (p * p)
        have c2 := mod_Mul y p hy0 (by omega) hp0 (by omega) w
        have c3 := mod_Mul p p hp0 (by omega) hp0 (by omega) w
        generalize y * p % PP = y' at *
        generalize p * p % PP = p' at *
        rw [HK.out] at e1
        have E1 := Lib.hid e1
        have C2 := Lib.hid c2
        have C3 := Lib.hid c3
        clear e1 c2 c3 HK HR
        have ht : (((k : Int) % 2) == 1) = true := by simp; omega
        go_wp2_with fail
        refine C2.out.mono ?_
        rintro e w' ⟨rfl, rfl⟩
        go_wp2_with fail
        refine C3.out.mono ?_
        rintro e w' ⟨rfl, rfl⟩
        go_wp2_with fail
        go_round
        case rel => exact ⟨p', y', k / 2, b2.1, b2.2, b1.1, b1.2, by omega, rfl, by go_num, rfl, E1⟩
        case measure => simp [intOf]; omega
      · have e1 := pow_even p y k (by omega)
        have b2 := pp_lt (p * p)
        have c3 := mod_Mul p p hp0 (by omega) hp0 (by omega) w
        generalize p * p % PP = p' at *
        rw [HK.out] at e1
        have E1 := Lib.hid e1
        have C3 := Lib.hid c3
        clear e1 c3 HK HR
        have ht : (((k : Int) % 2) == 1) = false := by simp; omega
        go_wp2_with fail
        refine C3.out.mono ?_
        rintro e w' ⟨rfl, rfl⟩
        go_wp2_with fail
        go_round
        case rel => exact ⟨p', y, k / 2, b2.1, b2.2, hy0, hy1, by omega, rfl, by go_num, rfl, E1⟩
        case measure => simp [intOf]; omega
    · obtain rfl : k = 0 := by omega
      have e1 := HK.out
      rw [Int.pow_zero, Int.mul_one, Int.emod_eq_of_lt hy0 (by unfold PP; omega)] at e1
      have E1 := Lib.hid e1
      clear e1 HK HR
      go_wp2_with fail
      go_ret
      exact ⟨ret_int E1.out, rfl⟩

theorem mod_PowI (a n : Int) (ha : 0 ≤ a) (ha' : a < 18446744073709551616) (h0 : 0 ≤ n) (hn : n < 18446744073709551616) (w : World) :
    Calls Tryd.prog 84 #[.int .u64 a, .int .u64 n] w fun e w' => e = .returned (.int .u64 (a ^ n.toNat % PP)) ∧ w = w' := by
  obtain ⟨k, rfl⟩ := Int.eq_ofNat_of_zero_le h0
  exact mod_Pow a k ha ha' (by omega) w

end Go.Proofs.YtodmpcnpedpheaaDoor

/- The walks of package length: each function returns what its plain function gives, the world unchanged. -/
set_option linter.unusedSimpArgs false
set_option linter.unusedVariables false
namespace Go.Proofs.YtodmpcnpedpheaaDoor
open Go.RowKit

def validB (n : Int) : Bool := decide (0 ≤ n) && decide (n ≤ 1152921504606846976)

/-- The value of an error: nil for 0. -/
def errV (n : Int) : Value := if n = 0 then .nilIface else .iface 38 (.int .i64 n)

set_option maxHeartbeats 400000 in
theorem len_Valid (n : Int) (w : World) :
    Calls Tryd.prog 64 #[.int .i64 n] w fun e w' => e = .returned (.bool (validB n)) ∧ w = w' := by
  by_cases h0 : 0 ≤ n
  all_goals
    go_enter Tryd.func64, Tryd.ntmps64
    go_wp2
    go_ret
    exact ⟨by simp [validB]; try omega, rfl⟩

theorem len_Valid_yes (n : Int) (w : World) (h : 0 ≤ n) (h2 : n ≤ 1152921504606846976) :
    Calls Tryd.prog 64 #[.int .i64 n] w fun e w' => e = .returned (.bool true) ∧ w = w' := by
  refine (len_Valid n w).mono ?_
  rintro e w' ⟨rfl, rfl⟩
  exact ⟨by simp [validB, h, h2], rfl⟩

theorem len_Valid_no (n : Int) (w : World) (h : n < 0 ∨ 1152921504606846976 < n) :
    Calls Tryd.prog 64 #[.int .i64 n] w fun e w' => e = .returned (.bool false) ∧ w = w' := by
  refine (len_Valid n w).mono ?_
  rintro e w' ⟨rfl, rfl⟩
  refine ⟨?_, rfl⟩
  congr 2
  simp only [validB, Bool.and_eq_false_iff, decide_eq_false_iff_not]
  omega

set_option maxHeartbeats 400000 in
theorem len_Clip (n lo hi : Int) (w : World) :
    Calls Tryd.prog 23 #[.int .i64 n, .int .i64 lo, .int .i64 hi] w fun e w' => e = .returned (.int .i64 (if n < lo then lo else if hi < n then hi else n)) ∧ w = w' := by
  go_enter Tryd.func23, Tryd.ntmps23
  go_wp2
  all_goals (go_ret; exact ⟨by simp [*], rfl⟩)

set_option maxHeartbeats 400000 in
theorem len_Add_ok (a b : Int) (w : World) (ha : 0 ≤ a) (hb : 0 ≤ b) (h : a + b ≤ 1152921504606846976) :
    Calls Tryd.prog 54 #[.int .i64 a, .int .i64 b] w fun e w' => e = .returned (.tuple #[.int .i64 (a + b), .nilIface]) ∧ w = w' := by
  go_enter Tryd.func54, Tryd.ntmps54
  go_wp2_with (go_at_call 64; refine (len_Valid_yes _ _ (by omega) (by omega)).mono ?_; rintro e w' ⟨rfl, rfl⟩)
  go_ret2
  exact ⟨rfl, rfl⟩

set_option maxHeartbeats 400000 in
theorem len_Add_long (a b : Int) (w : World) (ha : 0 ≤ a) (ha2 : a ≤ 1152921504606846976) (hb : 0 ≤ b) (hb2 : b ≤ 1152921504606846976) (h : 1152921504606846976 < a + b) :
    Calls Tryd.prog 54 #[.int .i64 a, .int .i64 b] w fun e w' => e = .returned (.tuple #[.int .i64 0, .iface 38 (.int .i64 2)]) ∧ w = w' := by
  go_enter Tryd.func54, Tryd.ntmps54
  go_wp2_with (go_at_call 64; refine (len_Valid_yes _ _ (by omega) (by omega)).mono ?_; rintro e w' ⟨rfl, rfl⟩)
  go_ret2
  exact ⟨rfl, rfl⟩

set_option maxHeartbeats 400000 in
theorem len_Range_ok (f n l : Int) (w : World) (h0 : 0 ≤ f) (h1 : 0 ≤ n) (h2 : f + n ≤ l) (h3 : l ≤ 1152921504606846976) :
    Calls Tryd.prog 78 #[.int .i64 f, .int .i64 n, .int .i64 l] w fun e w' => e = .returned .nilIface ∧ w = w' := by
  go_enter Tryd.func78, Tryd.ntmps78
  go_wp2_with (go_at_call 64; refine (len_Valid_yes _ _ (by omega) (by omega)).mono ?_; rintro e w' ⟨rfl, rfl⟩)
  go_ret
  exact ⟨rfl, rfl⟩

set_option maxHeartbeats 800000 in
theorem len_Range_no (f n l : Int) (w : World) (h2 : f < 0 ∨ n < 0 ∨ l < f ∨ l - f < n) (h3 : 0 ≤ l) (h4 : l ≤ 1152921504606846976) :
    Calls Tryd.prog 78 #[.int .i64 f, .int .i64 n, .int .i64 l] w fun e w' => e = .returned (.iface 38 (.int .i64 1)) ∧ w = w' := by
  by_cases a1 : f < 0
  · go_enter Tryd.func78, Tryd.ntmps78
    go_wp2_with (go_at_call 64; refine (len_Valid_yes _ _ (by omega) (by omega)).mono ?_; rintro e w' ⟨rfl, rfl⟩)
    go_ret
    exact ⟨rfl, rfl⟩
  by_cases a2 : n < 0
  · go_enter Tryd.func78, Tryd.ntmps78
    go_wp2_with (go_at_call 64; refine (len_Valid_yes _ _ (by omega) (by omega)).mono ?_; rintro e w' ⟨rfl, rfl⟩)
    go_ret
    exact ⟨rfl, rfl⟩
  by_cases a3 : l < f
  · go_enter Tryd.func78, Tryd.ntmps78
    go_wp2_with (go_at_call 64; refine (len_Valid_yes _ _ (by omega) (by omega)).mono ?_; rintro e w' ⟨rfl, rfl⟩)
    go_ret
    exact ⟨rfl, rfl⟩
  have a4 : l - f < n := by omega
  clear h2
  go_enter Tryd.func78, Tryd.ntmps78
  go_wp2_with (go_at_call 64; refine (len_Valid_yes _ _ (by omega) (by omega)).mono ?_; rintro e w' ⟨rfl, rfl⟩)
  go_ret
  exact ⟨rfl, rfl⟩

end Go.Proofs.YtodmpcnpedpheaaDoor

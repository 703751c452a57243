/- The walk of evergreenref12.One. -/
import Derived.Test.YtclpndigmidjkaaGreatQMk2
import Derived.Deep.RegionHeld3
set_option linter.unusedSimpArgs false
set_option linter.unusedVariables false
namespace Go.Proofs.YtclpndigmidjkaaGreat
open Go.RowKit

/-- A Make. -/
structure Mk where
  kind : Int
  letter : Int
  left : Int
  right : Int
  times : Int

def Mk.vals (m : Mk) : List Value := [.int .i64 m.kind, .int .u8 m.letter, .int .i64 m.left, .int .i64 m.right, .int .i64 m.times]
def i64P (n : Int) : Prop := -9223372036854775808 ≤ n ∧ n ≤ 9223372036854775807
structure Mk.Ok (m : Mk) : Prop where
  kind : i64P m.kind
  left : i64P m.left
  right : i64P m.right
  times : i64P m.times
  l0 : 0 ≤ m.letter
  l1 : m.letter < 256

def pickR (rs : List Int) (n : Int) : Int := rs.getD (n % (rs.length : Int)).toNat 0
def MaxL : Int := 1152921504606846976

/-- One Make of the reference: the entries, and the result. -/
def oneL (L : List Ent) (m : Mk) (rs : List Int) : List Ent × Int :=
  if m.kind % 4 = 0 then (addL L (letterEnt m.letter), addI L (letterEnt m.letter))
  else if m.kind % 4 = 3 then
    if pickR rs m.left = 0 ∨ m.times ≤ 0 ∨ MaxL / (entAt L (pickR rs m.left)).wt.len < m.times then (L, 0)
    else if m.times = 1 then (L, pickR rs m.left)
    else (addL L (powEnt L (pickR rs m.left) m.times), addI L (powEnt L (pickR rs m.left) m.times))
  else if pickR rs m.left = 0 then (L, pickR rs m.right)
  else if pickR rs m.right = 0 then (L, pickR rs m.left)
  else if MaxL - (entAt L (pickR rs m.right)).wt.len < (entAt L (pickR rs m.left)).wt.len then (L, 0)
  else (addL L (pairEnt L (pickR rs m.left) (pickR rs m.right)), addI L (pairEnt L (pickR rs m.left) (pickR rs m.right)))

def idv (x : Int) : List Value := [.int .i64 x]

/-- A result that is picked. -/
theorem pick_at {w : World} {B : Nat} {a : Option Addr} {rs : List Int} (hR : RG idv 1 B w a rs) (h0 : 0 < rs.length) (n : Int) : ∃ (i : Nat) (b off : Nat), n % (rs.length : Int) = (i : Int) ∧ i < rs.length ∧ a = some ⟨b, off, none⟩ ∧ b < w.heap.size ∧ w.cell? ⟨b, off + i, none⟩ = some (.int .i64 (pickR rs n)) := by
  have h2 := Int.emod_nonneg n (show (rs.length : Int) ≠ 0 by omega)
  have h3 := Int.emod_lt_of_pos n (show 0 < (rs.length : Int) by omega)
  have hi : (n % (rs.length : Int)).toNat < rs.length := by omega
  obtain ⟨b, off, rfl, hb, _, hc⟩ := hR _ hi
  have c0 := hc 0 _ rfl
  rw [Nat.mul_one, Nat.add_zero] at c0
  refine ⟨(n % (rs.length : Int)).toNat, b, off, by omega, hi, rfl, hb, ?_⟩
  unfold pickR
  rw [List.getD_eq_getElem?_getD, List.getElem?_eq_getElem hi]
  exact c0
theorem pick_known {L : List Ent} {rs : List Int} (hk : ∀ x ∈ rs, isKnown L x) (n : Int) : isKnown L (pickR rs n) := by
  unfold pickR
  rw [List.getD_eq_getElem?_getD]
  by_cases h : (n % (rs.length : Int)).toNat < rs.length
  · rw [List.getElem?_eq_getElem h]
    exact hk _ (List.getElem_mem h)
  · rw [List.getElem?_eq_none (by omega)]
    exact ⟨Int.le_refl _, by show (0 : Int) ≤ _; omega⟩

theorem letterE_len (b : Int) : (letterEnt b).wt.len = 1 := by
  show (Wt.letter b).len = 1
  unfold Wt.letter
  split <;> rfl

/-- What One leaves. -/
def OnePost (w : World) (L : List Ent) (id : Int) (e : Ending) (w' : World) : Prop :=
  ∃ va' vb', e = .returned (.tuple #[.agg #[va', vb'], .int .i64 id]) ∧ Fr0 w w' ∧ RSt w' va' vb' L

/-- The result is stored. -/
theorem one_out {w W0 w3 : World} {va' vb' : Value} {L : List Ent} {Z : Nat} (h0 : Fr0 w W0) (h3 : Fr0 W0 w3) (hz : W0.heap[Z + 1 + 1]? = some (.cells #[.slice none 0 0, .slice none 0 0] 34 (0, 0))) (hZ : Z = w.heap.size) (hs : RSt w3 va' vb' L) :
    Fr0 w ((w3.setCell ⟨Z + 1 + 1, 0, none⟩ va').setCell ⟨Z + 1 + 1, 1, none⟩ vb') ∧ RSt ((w3.setCell ⟨Z + 1 + 1, 0, none⟩ va').setCell ⟨Z + 1 + 1, 1, none⟩ vb') va' vb' L ∧ ((w3.setCell ⟨Z + 1 + 1, 0, none⟩ va').setCell ⟨Z + 1 + 1, 1, none⟩ vb').cell? ⟨Z + 1 + 1, 0, none⟩ = some va' ∧ ((w3.setCell ⟨Z + 1 + 1, 0, none⟩ va').setCell ⟨Z + 1 + 1, 1, none⟩ vb').cell? ⟨Z + 1 + 1, 1, none⟩ = some vb' := by
  have hz3 := h3.kept hz
  have h4 := setCell_block hz3 0 va'
  obtain ⟨e0, e1, _⟩ := cells2w (setCell_block h4 1 vb')
  exact ⟨((h0.trans h3).setCell _ _ (by show _ ≤ Z + 1 + 1; omega)).setCell _ _ (by show _ ≤ Z + 1 + 1; omega), (hs.set hz3 0 va').set h4 1 vb', e0, e1⟩

set_option maxRecDepth 100000 in
set_option maxHeartbeats 4000000 in
theorem ref12_One_letter {w : World} {va vb : Value} {L : List Ent} (hS : RSt w va vb L) (hl : L.length ≤ 900) (m : Mk) (hm : m.Ok) (rs : List Int) {B : Nat} {a : Option Addr} {cap : Nat} (hR : RG idv 1 B w a rs) (h0 : 0 < rs.length) (h1 : rs.length ≤ 1000) (hk : m.kind % 4 = 0) :
    Calls Tryz.prog 58 #[.agg #[va, vb], .agg #[.int .i64 m.kind, .int .u8 m.letter, .int .i64 m.left, .int .i64 m.right, .int .i64 m.times], .slice a rs.length cap] w (OnePost w (addL L (letterEnt m.letter)) (addI L (letterEnt m.letter))) := by
  obtain ⟨⟨ra, rcap, rfl, hru⟩, ⟨la, lcap, rfl, hle⟩, _, _⟩ := id hS
  obtain ⟨i, b, off, hi, hi2, rfl, hlb, hci⟩ := pick_at hR h0 m.left
  obtain ⟨j, b', off', hj, hj2, hbb, _, hcj⟩ := pick_at hR h0 m.right
  simp only [Option.some.injEq, Addr.mk.injEq, and_true] at hbb
  obtain ⟨rfl, rfl⟩ := hbb
  have CP1 := Lib.hid (fun W => ref12_Pick m.left rs.length W hm.left.1 hm.left.2 (by omega) (by omega))
  rw [hi] at CP1
  have CP2 := Lib.hid (fun W => ref12_Pick m.right rs.length W hm.right.1 hm.right.2 (by omega) (by omega))
  rw [hj] at CP2
  have CP3 := Lib.hid (fun W => ref12_Pick m.kind 4 W hm.kind.1 hm.kind.2 (by omega) (by omega))
  rw [hk] at CP3
  have CA : Hid (∀ W, Fr0 w W → Calls Tryz.prog 99 #[.agg #[.slice ra L.length rcap, .slice la L.length lcap], .agg #[.int .i64 1, .int .u8 m.letter, .int .i64 0, .int .i64 0, .int .i64 0], .int .i64 1] W (OnePost W (addL L (letterEnt m.letter)) (addI L (letterEnt m.letter)))) := by
    intro W hW
    have := ref12_Add (hS.kept0 hW) (letterEnt m.letter) (by omega)
    rw [letterE_len] at this
    exact this
  have x1 : (0 : Int) ≤ (i : Int) := by omega
  have x2 : (i : Int) < (rs.length : Int) := by omega
  have x3 : (0 : Int) ≤ (j : Int) := by omega
  have x4 : (j : Int) < (rs.length : Int) := by omega
  generalize pickR rs m.left = l at *
  generalize pickR rs m.right = r at *
  clear hS hm hR hk hi hj hru hle
  go_enter Tryz.func58, Tryz.ntmps58
  go_wp2_with fail
  have hB : ∃ W0, W0 = ((w.alloc (.cells #[.slice ra L.length rcap, .slice la L.length lcap] 34 (0, 0))).alloc (.cells #[.int .i64 m.kind, .int .u8 m.letter, .int .i64 m.left, .int .i64 m.right, .int .i64 m.times] 123 (0, 0))).alloc (.cells #[.slice none 0 0, .slice none 0 0] 34 (0, 0)) := ⟨_, rfl⟩
  obtain ⟨W0, hW0⟩ := hB
  have F0 : Fr0 w W0 := by rw [hW0]; exact (((Fr0.refl w).alloc _).alloc _).alloc _
  have hz0 : W0.heap[w.heap.size]? = some (.cells #[.slice ra L.length rcap, .slice la L.length lcap] 34 (0, 0)) := by rw [hW0]; exact alloc3_0 w _ _ _
  have hz1 : W0.heap[w.heap.size + 1]? = some (.cells #[.int .i64 m.kind, .int .u8 m.letter, .int .i64 m.left, .int .i64 m.right, .int .i64 m.times] 123 (0, 0)) := by rw [hW0]; exact alloc3_1 w _ _ _
  have hz2 : W0.heap[w.heap.size + 1 + 1]? = some (.cells #[.slice none 0 0, .slice none 0 0] 34 (0, 0)) := by rw [hW0]; exact alloc3_2 w _ _ _
  rw [← hW0]
  obtain ⟨Z, hZ⟩ : ∃ Z, Z = w.heap.size := ⟨_, rfl⟩
  rw [← hZ] at hz0 hz1 hz2 ⊢
  have HZS := Lib.hid hZ
  have hci0 := (F0.cell b (off + i) hlb).trans hci
  have hcj0 := (F0.cell b (off + j) hlb).trans hcj
  have hlb0 : b < W0.heap.size := by have := Fr.size F0; omega
  obtain ⟨a0, a1, la0⟩ := cells2w hz0
  obtain ⟨b0, b1, b2, b3, b4, lb0⟩ := cells5w' hz1
  obtain ⟨g0, g1, gf, lg⟩ := cells2f hz2
  have HF0 := Lib.hid F0
  have HZ2 := Lib.hid hz2
  clear hW0 F0 hz0 hz1 hz2 hZ hci hcj
  refine (CP1.out _).mono ?_
  rintro e w' ⟨rfl, rfl⟩
  go_wp2_with fail
  refine (CP2.out _).mono ?_
  rintro e w' ⟨rfl, rfl⟩
  go_wp2_with fail
  refine (CP3.out _).mono ?_
  rintro e w' ⟨rfl, rfl⟩
  go_wp2_with fail
  refine (CA.out _ HF0.out).mono ?_
  rintro e w3 ⟨va', vb', rfl, f3, hs3⟩
  have HX := Lib.hid (one_out HF0.out f3 HZ2.out HZS.out hs3)
  obtain ⟨⟨ra', rcap', rfl, _⟩, ⟨la', lcap', rfl, _⟩, _, _⟩ := id hs3
  obtain ⟨g0', g1', gf', lg'⟩ := cells2f (f3.kept HZ2.out)
  have HF3 := Lib.hid f3
  clear f3 hs3 CA CP1 CP2 CP3 g0 g1 gf lg a0 a1 la0 b0 b1 b2 b3 b4 lb0
  go_wp2_with fail
  obtain ⟨y1, y2, e0, e1⟩ := HX.out
  exact bodyPost_ret (v := .tuple #[.agg #[.slice ra' _ rcap', .slice la' _ lcap'], .int .i64 _]) (by simp [results, Tryz.results58, go_sem, e0, e1]) rfl ⟨_, _, rfl, y1, y2⟩

set_option maxRecDepth 100000 in
set_option maxHeartbeats 4000000 in
theorem ref12_One_same0 {w : World} {va vb : Value} {L : List Ent} (hS : RSt w va vb L) (hO : SOk L) (hl : L.length ≤ 900) (m : Mk) (hm : m.Ok) (rs : List Int) {B : Nat} {a : Option Addr} {cap : Nat} (hR : RG idv 1 B w a rs) (h0 : 0 < rs.length) (h1 : rs.length ≤ 1000) (kk l r : Int) (hk : m.kind % 4 = kk) (hl' : pickR rs m.left = l) (hr' : pickR rs m.right = r) (kl : isKnown L l) (kr : isKnown L r) (hk3 : kk = 1 ∨ kk = 2) (hl0 : l = 0) :
    Calls Tryz.prog 58 #[.agg #[va, vb], .agg #[.int .i64 m.kind, .int .u8 m.letter, .int .i64 m.left, .int .i64 m.right, .int .i64 m.times], .slice a rs.length cap] w (OnePost w L r) := by
  obtain ⟨⟨ra, rcap, rfl, _⟩, ⟨la, lcap, rfl, _⟩, _, _⟩ := id hS
  obtain ⟨i, b, off, hi, hi2, rfl, hlb, hci⟩ := pick_at hR h0 m.left
  obtain ⟨j, b', off', hj, hj2, hbb, _, hcj⟩ := pick_at hR h0 m.right
  simp only [Option.some.injEq, Addr.mk.injEq, and_true] at hbb
  obtain ⟨rfl, rfl⟩ := hbb
  rw [hl'] at hci
  rw [hr'] at hcj
  have CP1 := Lib.hid (fun W => ref12_Pick m.left rs.length W hm.left.1 hm.left.2 (by omega) (by omega))
  rw [hi] at CP1
  have CP2 := Lib.hid (fun W => ref12_Pick m.right rs.length W hm.right.1 hm.right.2 (by omega) (by omega))
  rw [hj] at CP2
  have CP3 := Lib.hid (fun W => ref12_Pick m.kind 4 W hm.kind.1 hm.kind.2 (by omega) (by omega))
  rw [hk] at CP3
  have ht1 := hm.times.1
  have ht2 := hm.times.2
  have x1 : (0 : Int) ≤ (i : Int) := by omega
  have x2 : (i : Int) < (rs.length : Int) := by omega
  have x3 : (0 : Int) ≤ (j : Int) := by omega
  have x4 : (j : Int) < (rs.length : Int) := by omega
  have HS := Lib.hid hS
  have q0 : (kk == 0) = false := beq_eq_false_iff_ne.2 (by omega)
  have q1 : (kk == 3) = false := beq_eq_false_iff_ne.2 (by omega)
  have q2 : (l == 0) = true := beq_iff_eq.2 (by omega)
  clear hl0
  clear hS hO hm hR hk hi hj hl' hr' kl kr
  go_enter Tryz.func58, Tryz.ntmps58
  go_wp2_with fail
  have hB : ∃ W0, W0 = ((w.alloc (.cells #[.slice ra L.length rcap, .slice la L.length lcap] 34 (0, 0))).alloc (.cells #[.int .i64 m.kind, .int .u8 m.letter, .int .i64 m.left, .int .i64 m.right, .int .i64 m.times] 123 (0, 0))).alloc (.cells #[.slice none 0 0, .slice none 0 0] 34 (0, 0)) := ⟨_, rfl⟩
  obtain ⟨W0, hW0⟩ := hB
  have F0 : Fr0 w W0 := by rw [hW0]; exact (((Fr0.refl w).alloc _).alloc _).alloc _
  have hz0 : W0.heap[w.heap.size]? = some (.cells #[.slice ra L.length rcap, .slice la L.length lcap] 34 (0, 0)) := by rw [hW0]; exact alloc3_0 w _ _ _
  have hz1 : W0.heap[w.heap.size + 1]? = some (.cells #[.int .i64 m.kind, .int .u8 m.letter, .int .i64 m.left, .int .i64 m.right, .int .i64 m.times] 123 (0, 0)) := by rw [hW0]; exact alloc3_1 w _ _ _
  have hz2 : W0.heap[w.heap.size + 1 + 1]? = some (.cells #[.slice none 0 0, .slice none 0 0] 34 (0, 0)) := by rw [hW0]; exact alloc3_2 w _ _ _
  rw [← hW0]
  obtain ⟨Z, hZ⟩ : ∃ Z, Z = w.heap.size := ⟨_, rfl⟩
  rw [← hZ] at hz0 hz1 hz2 ⊢
  have HZS := Lib.hid hZ
  have hci0 := (F0.cell b (off + i) hlb).trans hci
  have hcj0 := (F0.cell b (off + j) hlb).trans hcj
  have hlb0 : b < W0.heap.size := by have := Fr.size F0; omega
  obtain ⟨a0, a1, la0⟩ := cells2w hz0
  obtain ⟨b0, b1, b2, b3, b4, lb0⟩ := cells5w' hz1
  obtain ⟨g0, g1, gf, lg⟩ := cells2f hz2
  have HF0 := Lib.hid F0
  have HZ0 := Lib.hid hz0
  have HZ1 := Lib.hid hz1
  have HZ2 := Lib.hid hz2
  clear hW0 F0 hz0 hz1 hz2 hZ hci hcj
  refine (CP1.out _).mono ?_
  rintro e w' ⟨rfl, rfl⟩
  go_wp2_with fail
  refine (CP2.out _).mono ?_
  rintro e w' ⟨rfl, rfl⟩
  go_wp2_with fail
  refine (CP3.out _).mono ?_
  rintro e w' ⟨rfl, rfl⟩
  clear CP1 CP2 CP3
  have HX := Lib.hid (one_out HF0.out (Fr0.refl W0) HZ2.out HZS.out (HS.out.kept0 HF0.out))
  go_wp2_with fail
  obtain ⟨y1, y2, e0, e1⟩ := HX.out
  exact bodyPost_ret (v := .tuple #[.agg #[.slice ra L.length rcap, .slice la L.length lcap], .int .i64 r]) (by simp [results, Tryz.results58, go_sem, e0, e1]) rfl ⟨_, _, rfl, y1, y2⟩


set_option maxRecDepth 100000 in
set_option maxHeartbeats 4000000 in
theorem ref12_One_same1 {w : World} {va vb : Value} {L : List Ent} (hS : RSt w va vb L) (hO : SOk L) (hl : L.length ≤ 900) (m : Mk) (hm : m.Ok) (rs : List Int) {B : Nat} {a : Option Addr} {cap : Nat} (hR : RG idv 1 B w a rs) (h0 : 0 < rs.length) (h1 : rs.length ≤ 1000) (kk l r : Int) (hk : m.kind % 4 = kk) (hl' : pickR rs m.left = l) (hr' : pickR rs m.right = r) (kl : isKnown L l) (kr : isKnown L r) (hk3 : kk = 1 ∨ kk = 2) (hl0 : l ≠ 0) (hr0 : r = 0) :
    Calls Tryz.prog 58 #[.agg #[va, vb], .agg #[.int .i64 m.kind, .int .u8 m.letter, .int .i64 m.left, .int .i64 m.right, .int .i64 m.times], .slice a rs.length cap] w (OnePost w L l) := by
  obtain ⟨⟨ra, rcap, rfl, _⟩, ⟨la, lcap, rfl, _⟩, _, _⟩ := id hS
  obtain ⟨i, b, off, hi, hi2, rfl, hlb, hci⟩ := pick_at hR h0 m.left
  obtain ⟨j, b', off', hj, hj2, hbb, _, hcj⟩ := pick_at hR h0 m.right
  simp only [Option.some.injEq, Addr.mk.injEq, and_true] at hbb
  obtain ⟨rfl, rfl⟩ := hbb
  rw [hl'] at hci
  rw [hr'] at hcj
  have CP1 := Lib.hid (fun W => ref12_Pick m.left rs.length W hm.left.1 hm.left.2 (by omega) (by omega))
  rw [hi] at CP1
  have CP2 := Lib.hid (fun W => ref12_Pick m.right rs.length W hm.right.1 hm.right.2 (by omega) (by omega))
  rw [hj] at CP2
  have CP3 := Lib.hid (fun W => ref12_Pick m.kind 4 W hm.kind.1 hm.kind.2 (by omega) (by omega))
  rw [hk] at CP3
  have ht1 := hm.times.1
  have ht2 := hm.times.2
  have x1 : (0 : Int) ≤ (i : Int) := by omega
  have x2 : (i : Int) < (rs.length : Int) := by omega
  have x3 : (0 : Int) ≤ (j : Int) := by omega
  have x4 : (j : Int) < (rs.length : Int) := by omega
  have HS := Lib.hid hS
  have q0 : (kk == 0) = false := beq_eq_false_iff_ne.2 (by omega)
  have q1 : (kk == 3) = false := beq_eq_false_iff_ne.2 (by omega)
  have q2 : (l == 0) = false := beq_eq_false_iff_ne.2 (by omega)
  have q3 : (r == 0) = true := beq_iff_eq.2 (by omega)
  clear hl0 hr0
  clear hS hO hm hR hk hi hj hl' hr' kl kr
  go_enter Tryz.func58, Tryz.ntmps58
  go_wp2_with fail
  have hB : ∃ W0, W0 = ((w.alloc (.cells #[.slice ra L.length rcap, .slice la L.length lcap] 34 (0, 0))).alloc (.cells #[.int .i64 m.kind, .int .u8 m.letter, .int .i64 m.left, .int .i64 m.right, .int .i64 m.times] 123 (0, 0))).alloc (.cells #[.slice none 0 0, .slice none 0 0] 34 (0, 0)) := ⟨_, rfl⟩
  obtain ⟨W0, hW0⟩ := hB
  have F0 : Fr0 w W0 := by rw [hW0]; exact (((Fr0.refl w).alloc _).alloc _).alloc _
  have hz0 : W0.heap[w.heap.size]? = some (.cells #[.slice ra L.length rcap, .slice la L.length lcap] 34 (0, 0)) := by rw [hW0]; exact alloc3_0 w _ _ _
  have hz1 : W0.heap[w.heap.size + 1]? = some (.cells #[.int .i64 m.kind, .int .u8 m.letter, .int .i64 m.left, .int .i64 m.right, .int .i64 m.times] 123 (0, 0)) := by rw [hW0]; exact alloc3_1 w _ _ _
  have hz2 : W0.heap[w.heap.size + 1 + 1]? = some (.cells #[.slice none 0 0, .slice none 0 0] 34 (0, 0)) := by rw [hW0]; exact alloc3_2 w _ _ _
  rw [← hW0]
  obtain ⟨Z, hZ⟩ : ∃ Z, Z = w.heap.size := ⟨_, rfl⟩
  rw [← hZ] at hz0 hz1 hz2 ⊢
  have HZS := Lib.hid hZ
  have hci0 := (F0.cell b (off + i) hlb).trans hci
  have hcj0 := (F0.cell b (off + j) hlb).trans hcj
  have hlb0 : b < W0.heap.size := by have := Fr.size F0; omega
  obtain ⟨a0, a1, la0⟩ := cells2w hz0
  obtain ⟨b0, b1, b2, b3, b4, lb0⟩ := cells5w' hz1
  obtain ⟨g0, g1, gf, lg⟩ := cells2f hz2
  have HF0 := Lib.hid F0
  have HZ0 := Lib.hid hz0
  have HZ1 := Lib.hid hz1
  have HZ2 := Lib.hid hz2
  clear hW0 F0 hz0 hz1 hz2 hZ hci hcj
  refine (CP1.out _).mono ?_
  rintro e w' ⟨rfl, rfl⟩
  go_wp2_with fail
  refine (CP2.out _).mono ?_
  rintro e w' ⟨rfl, rfl⟩
  go_wp2_with fail
  refine (CP3.out _).mono ?_
  rintro e w' ⟨rfl, rfl⟩
  clear CP1 CP2 CP3
  have HX := Lib.hid (one_out HF0.out (Fr0.refl W0) HZ2.out HZS.out (HS.out.kept0 HF0.out))
  go_wp2_with fail
  obtain ⟨y1, y2, e0, e1⟩ := HX.out
  exact bodyPost_ret (v := .tuple #[.agg #[.slice ra L.length rcap, .slice la L.length lcap], .int .i64 l]) (by simp [results, Tryz.results58, go_sem, e0, e1]) rfl ⟨_, _, rfl, y1, y2⟩


set_option maxRecDepth 100000 in
set_option maxHeartbeats 4000000 in
theorem ref12_One_pow0 {w : World} {va vb : Value} {L : List Ent} (hS : RSt w va vb L) (hO : SOk L) (hl : L.length ≤ 900) (m : Mk) (hm : m.Ok) (rs : List Int) {B : Nat} {a : Option Addr} {cap : Nat} (hR : RG idv 1 B w a rs) (h0 : 0 < rs.length) (h1 : rs.length ≤ 1000) (kk l r : Int) (hk : m.kind % 4 = kk) (hl' : pickR rs m.left = l) (hr' : pickR rs m.right = r) (kl : isKnown L l) (kr : isKnown L r) (hk3 : kk = 3) (hl0 : l = 0) :
    Calls Tryz.prog 58 #[.agg #[va, vb], .agg #[.int .i64 m.kind, .int .u8 m.letter, .int .i64 m.left, .int .i64 m.right, .int .i64 m.times], .slice a rs.length cap] w (OnePost w L 0) := by
  obtain ⟨⟨ra, rcap, rfl, _⟩, ⟨la, lcap, rfl, _⟩, _, _⟩ := id hS
  obtain ⟨i, b, off, hi, hi2, rfl, hlb, hci⟩ := pick_at hR h0 m.left
  obtain ⟨j, b', off', hj, hj2, hbb, _, hcj⟩ := pick_at hR h0 m.right
  simp only [Option.some.injEq, Addr.mk.injEq, and_true] at hbb
  obtain ⟨rfl, rfl⟩ := hbb
  rw [hl'] at hci
  rw [hr'] at hcj
  have CP1 := Lib.hid (fun W => ref12_Pick m.left rs.length W hm.left.1 hm.left.2 (by omega) (by omega))
  rw [hi] at CP1
  have CP2 := Lib.hid (fun W => ref12_Pick m.right rs.length W hm.right.1 hm.right.2 (by omega) (by omega))
  rw [hj] at CP2
  have CP3 := Lib.hid (fun W => ref12_Pick m.kind 4 W hm.kind.1 hm.kind.2 (by omega) (by omega))
  rw [hk] at CP3
  have ht1 := hm.times.1
  have ht2 := hm.times.2
  have x1 : (0 : Int) ≤ (i : Int) := by omega
  have x2 : (i : Int) < (rs.length : Int) := by omega
  have x3 : (0 : Int) ≤ (j : Int) := by omega
  have x4 : (j : Int) < (rs.length : Int) := by omega
  have HS := Lib.hid hS
  have CL := Lib.hid (fun W (hW : Fr0 w W) => ref12_Length (hS.kept0 hW) (by omega) l kl)
  have q0 : (kk == 0) = false := beq_eq_false_iff_ne.2 (by omega)
  have q1 : (kk == 3) = true := beq_iff_eq.2 (by omega)
  have q2 : (l == 0) = true := beq_iff_eq.2 (by omega)
  clear hk3 hl0
  clear hS hO hm hR hk hi hj hl' hr' kl kr
  go_enter Tryz.func58, Tryz.ntmps58
  go_wp2_with fail
  have hB : ∃ W0, W0 = ((w.alloc (.cells #[.slice ra L.length rcap, .slice la L.length lcap] 34 (0, 0))).alloc (.cells #[.int .i64 m.kind, .int .u8 m.letter, .int .i64 m.left, .int .i64 m.right, .int .i64 m.times] 123 (0, 0))).alloc (.cells #[.slice none 0 0, .slice none 0 0] 34 (0, 0)) := ⟨_, rfl⟩
  obtain ⟨W0, hW0⟩ := hB
  have F0 : Fr0 w W0 := by rw [hW0]; exact (((Fr0.refl w).alloc _).alloc _).alloc _
  have hz0 : W0.heap[w.heap.size]? = some (.cells #[.slice ra L.length rcap, .slice la L.length lcap] 34 (0, 0)) := by rw [hW0]; exact alloc3_0 w _ _ _
  have hz1 : W0.heap[w.heap.size + 1]? = some (.cells #[.int .i64 m.kind, .int .u8 m.letter, .int .i64 m.left, .int .i64 m.right, .int .i64 m.times] 123 (0, 0)) := by rw [hW0]; exact alloc3_1 w _ _ _
  have hz2 : W0.heap[w.heap.size + 1 + 1]? = some (.cells #[.slice none 0 0, .slice none 0 0] 34 (0, 0)) := by rw [hW0]; exact alloc3_2 w _ _ _
  rw [← hW0]
  obtain ⟨Z, hZ⟩ : ∃ Z, Z = w.heap.size := ⟨_, rfl⟩
  rw [← hZ] at hz0 hz1 hz2 ⊢
  have HZS := Lib.hid hZ
  have hci0 := (F0.cell b (off + i) hlb).trans hci
  have hcj0 := (F0.cell b (off + j) hlb).trans hcj
  have hlb0 : b < W0.heap.size := by have := Fr.size F0; omega
  obtain ⟨a0, a1, la0⟩ := cells2w hz0
  obtain ⟨b0, b1, b2, b3, b4, lb0⟩ := cells5w' hz1
  obtain ⟨g0, g1, gf, lg⟩ := cells2f hz2
  have HF0 := Lib.hid F0
  have HZ0 := Lib.hid hz0
  have HZ1 := Lib.hid hz1
  have HZ2 := Lib.hid hz2
  clear hW0 F0 hz0 hz1 hz2 hZ hci hcj
  refine (CP1.out _).mono ?_
  rintro e w' ⟨rfl, rfl⟩
  go_wp2_with fail
  refine (CP2.out _).mono ?_
  rintro e w' ⟨rfl, rfl⟩
  go_wp2_with fail
  refine (CP3.out _).mono ?_
  rintro e w' ⟨rfl, rfl⟩
  clear CP1 CP2 CP3
  go_wp2_with fail
  refine (CL.out _ HF0.out).mono ?_
  rintro e w3 ⟨rfl, FF⟩
  have hz0 := FF.kept HZ0.out
  have hz1 := FF.kept HZ1.out
  have hz2 := FF.kept HZ2.out
  clear a0 a1 la0 b0 b1 b2 b3 b4 lb0 g0 g1 gf lg
  obtain ⟨a0, a1, la0⟩ := cells2w hz0
  obtain ⟨b0, b1, b2, b3, b4, lb0⟩ := cells5w' hz1
  obtain ⟨g0, g1, gf, lg⟩ := cells2f hz2
  clear hz0 hz1 hz2
  have HFF := Lib.hid FF
  have HSS := Lib.hid (HS.out.kept0 (HF0.out.trans FF))
  clear FF CL
  generalize (entAt L l).wt.len = n at *
  go_wp2_with fail
  go_quiet (fail)
  have HX := Lib.hid (one_out HF0.out (HFF.out.drewN nq) HZ2.out HZS.out (HSS.out.kept0 ((Fr0.refl _).drewN nq)))
  go_wp2_with fail
  obtain ⟨y1, y2, e0, e1⟩ := HX.out
  exact bodyPost_ret (v := .tuple #[.agg #[.slice ra L.length rcap, .slice la L.length lcap], .int .i64 0]) (by simp [results, Tryz.results58, go_sem, e0, e1]) rfl ⟨_, _, rfl, y1, y2⟩


set_option maxRecDepth 100000 in
set_option maxHeartbeats 4000000 in
theorem ref12_One_pow1 {w : World} {va vb : Value} {L : List Ent} (hS : RSt w va vb L) (hO : SOk L) (hl : L.length ≤ 900) (m : Mk) (hm : m.Ok) (rs : List Int) {B : Nat} {a : Option Addr} {cap : Nat} (hR : RG idv 1 B w a rs) (h0 : 0 < rs.length) (h1 : rs.length ≤ 1000) (kk l r : Int) (hk : m.kind % 4 = kk) (hl' : pickR rs m.left = l) (hr' : pickR rs m.right = r) (kl : isKnown L l) (kr : isKnown L r) (hk3 : kk = 3) (hl0 : l ≠ 0) (ht : m.times ≤ 0) :
    Calls Tryz.prog 58 #[.agg #[va, vb], .agg #[.int .i64 m.kind, .int .u8 m.letter, .int .i64 m.left, .int .i64 m.right, .int .i64 m.times], .slice a rs.length cap] w (OnePost w L 0) := by
  obtain ⟨⟨ra, rcap, rfl, _⟩, ⟨la, lcap, rfl, _⟩, _, _⟩ := id hS
  obtain ⟨i, b, off, hi, hi2, rfl, hlb, hci⟩ := pick_at hR h0 m.left
  obtain ⟨j, b', off', hj, hj2, hbb, _, hcj⟩ := pick_at hR h0 m.right
  simp only [Option.some.injEq, Addr.mk.injEq, and_true] at hbb
  obtain ⟨rfl, rfl⟩ := hbb
  rw [hl'] at hci
  rw [hr'] at hcj
  have CP1 := Lib.hid (fun W => ref12_Pick m.left rs.length W hm.left.1 hm.left.2 (by omega) (by omega))
  rw [hi] at CP1
  have CP2 := Lib.hid (fun W => ref12_Pick m.right rs.length W hm.right.1 hm.right.2 (by omega) (by omega))
  rw [hj] at CP2
  have CP3 := Lib.hid (fun W => ref12_Pick m.kind 4 W hm.kind.1 hm.kind.2 (by omega) (by omega))
  rw [hk] at CP3
  have ht1 := hm.times.1
  have ht2 := hm.times.2
  have x1 : (0 : Int) ≤ (i : Int) := by omega
  have x2 : (i : Int) < (rs.length : Int) := by omega
  have x3 : (0 : Int) ≤ (j : Int) := by omega
  have x4 : (j : Int) < (rs.length : Int) := by omega
  have HS := Lib.hid hS
  have CL := Lib.hid (fun W (hW : Fr0 w W) => ref12_Length (hS.kept0 hW) (by omega) l kl)
  have q0 : (kk == 0) = false := beq_eq_false_iff_ne.2 (by omega)
  have q1 : (kk == 3) = true := beq_iff_eq.2 (by omega)
  have q2 : (l == 0) = false := beq_eq_false_iff_ne.2 (by omega)
  have q3 : decide (m.times ≤ 0) = true := decide_eq_true ht
  clear hk3 hl0
  clear hS hO hm hR hk hi hj hl' hr' kl kr
  go_enter Tryz.func58, Tryz.ntmps58
  go_wp2_with fail
  have hB : ∃ W0, W0 = ((w.alloc (.cells #[.slice ra L.length rcap, .slice la L.length lcap] 34 (0, 0))).alloc (.cells #[.int .i64 m.kind, .int .u8 m.letter, .int .i64 m.left, .int .i64 m.right, .int .i64 m.times] 123 (0, 0))).alloc (.cells #[.slice none 0 0, .slice none 0 0] 34 (0, 0)) := ⟨_, rfl⟩
  obtain ⟨W0, hW0⟩ := hB
  have F0 : Fr0 w W0 := by rw [hW0]; exact (((Fr0.refl w).alloc _).alloc _).alloc _
  have hz0 : W0.heap[w.heap.size]? = some (.cells #[.slice ra L.length rcap, .slice la L.length lcap] 34 (0, 0)) := by rw [hW0]; exact alloc3_0 w _ _ _
  have hz1 : W0.heap[w.heap.size + 1]? = some (.cells #[.int .i64 m.kind, .int .u8 m.letter, .int .i64 m.left, .int .i64 m.right, .int .i64 m.times] 123 (0, 0)) := by rw [hW0]; exact alloc3_1 w _ _ _
  have hz2 : W0.heap[w.heap.size + 1 + 1]? = some (.cells #[.slice none 0 0, .slice none 0 0] 34 (0, 0)) := by rw [hW0]; exact alloc3_2 w _ _ _
  rw [← hW0]
  obtain ⟨Z, hZ⟩ : ∃ Z, Z = w.heap.size := ⟨_, rfl⟩
  rw [← hZ] at hz0 hz1 hz2 ⊢
  have HZS := Lib.hid hZ
  have hci0 := (F0.cell b (off + i) hlb).trans hci
  have hcj0 := (F0.cell b (off + j) hlb).trans hcj
  have hlb0 : b < W0.heap.size := by have := Fr.size F0; omega
  obtain ⟨a0, a1, la0⟩ := cells2w hz0
  obtain ⟨b0, b1, b2, b3, b4, lb0⟩ := cells5w' hz1
  obtain ⟨g0, g1, gf, lg⟩ := cells2f hz2
  have HF0 := Lib.hid F0
  have HZ0 := Lib.hid hz0
  have HZ1 := Lib.hid hz1
  have HZ2 := Lib.hid hz2
  clear hW0 F0 hz0 hz1 hz2 hZ hci hcj
  refine (CP1.out _).mono ?_
  rintro e w' ⟨rfl, rfl⟩
  go_wp2_with fail
  refine (CP2.out _).mono ?_
  rintro e w' ⟨rfl, rfl⟩
  go_wp2_with fail
  refine (CP3.out _).mono ?_
  rintro e w' ⟨rfl, rfl⟩
  clear CP1 CP2 CP3
  go_wp2_with fail
  refine (CL.out _ HF0.out).mono ?_
  rintro e w3 ⟨rfl, FF⟩
  have hz0 := FF.kept HZ0.out
  have hz1 := FF.kept HZ1.out
  have hz2 := FF.kept HZ2.out
  clear a0 a1 la0 b0 b1 b2 b3 b4 lb0 g0 g1 gf lg
  obtain ⟨a0, a1, la0⟩ := cells2w hz0
  obtain ⟨b0, b1, b2, b3, b4, lb0⟩ := cells5w' hz1
  obtain ⟨g0, g1, gf, lg⟩ := cells2f hz2
  clear hz0 hz1 hz2
  have HFF := Lib.hid FF
  have HSS := Lib.hid (HS.out.kept0 (HF0.out.trans FF))
  clear FF CL
  generalize (entAt L l).wt.len = n at *
  go_wp2_with fail
  go_quiet (fail)
  have HX := Lib.hid (one_out HF0.out (HFF.out.drewN nq) HZ2.out HZS.out (HSS.out.kept0 ((Fr0.refl _).drewN nq)))
  go_wp2_with fail
  obtain ⟨y1, y2, e0, e1⟩ := HX.out
  exact bodyPost_ret (v := .tuple #[.agg #[.slice ra L.length rcap, .slice la L.length lcap], .int .i64 0]) (by simp [results, Tryz.results58, go_sem, e0, e1]) rfl ⟨_, _, rfl, y1, y2⟩


set_option maxRecDepth 100000 in
set_option maxHeartbeats 4000000 in
theorem ref12_One_pow2 {w : World} {va vb : Value} {L : List Ent} (hS : RSt w va vb L) (hO : SOk L) (hl : L.length ≤ 900) (m : Mk) (hm : m.Ok) (rs : List Int) {B : Nat} {a : Option Addr} {cap : Nat} (hR : RG idv 1 B w a rs) (h0 : 0 < rs.length) (h1 : rs.length ≤ 1000) (kk l r : Int) (hk : m.kind % 4 = kk) (hl' : pickR rs m.left = l) (hr' : pickR rs m.right = r) (kl : isKnown L l) (kr : isKnown L r) (hk3 : kk = 3) (hl0 : l ≠ 0) (n : Int) (hn : (entAt L l).wt.len = n) (hn1 : 1 ≤ n) (hn2 : n ≤ 1152921504606846976) (ht : 0 < m.times) (hd : 1152921504606846976 / n < m.times) :
    Calls Tryz.prog 58 #[.agg #[va, vb], .agg #[.int .i64 m.kind, .int .u8 m.letter, .int .i64 m.left, .int .i64 m.right, .int .i64 m.times], .slice a rs.length cap] w (OnePost w L 0) := by
  obtain ⟨⟨ra, rcap, rfl, _⟩, ⟨la, lcap, rfl, _⟩, _, _⟩ := id hS
  obtain ⟨i, b, off, hi, hi2, rfl, hlb, hci⟩ := pick_at hR h0 m.left
  obtain ⟨j, b', off', hj, hj2, hbb, _, hcj⟩ := pick_at hR h0 m.right
  simp only [Option.some.injEq, Addr.mk.injEq, and_true] at hbb
  obtain ⟨rfl, rfl⟩ := hbb
  rw [hl'] at hci
  rw [hr'] at hcj
  have CP1 := Lib.hid (fun W => ref12_Pick m.left rs.length W hm.left.1 hm.left.2 (by omega) (by omega))
  rw [hi] at CP1
  have CP2 := Lib.hid (fun W => ref12_Pick m.right rs.length W hm.right.1 hm.right.2 (by omega) (by omega))
  rw [hj] at CP2
  have CP3 := Lib.hid (fun W => ref12_Pick m.kind 4 W hm.kind.1 hm.kind.2 (by omega) (by omega))
  rw [hk] at CP3
  have ht1 := hm.times.1
  have ht2 := hm.times.2
  have x1 : (0 : Int) ≤ (i : Int) := by omega
  have x2 : (i : Int) < (rs.length : Int) := by omega
  have x3 : (0 : Int) ≤ (j : Int) := by omega
  have x4 : (j : Int) < (rs.length : Int) := by omega
  have HS := Lib.hid hS
  have CL := Lib.hid (fun W (hW : Fr0 w W) => ref12_Length (hS.kept0 hW) (by omega) l kl)
  rw [hn] at CL
  have q0 : (kk == 0) = false := beq_eq_false_iff_ne.2 (by omega)
  have q1 : (kk == 3) = true := beq_iff_eq.2 (by omega)
  have q2 : (l == 0) = false := beq_eq_false_iff_ne.2 (by omega)
  have q3 : decide (m.times ≤ 0) = false := decide_eq_false (by omega)
  have q4 : decide (1152921504606846976 / n < m.times) = true := decide_eq_true hd
  clear hk3 hl0 hn hd
  clear hS hO hm hR hk hi hj hl' hr' kl kr
  go_enter Tryz.func58, Tryz.ntmps58
  go_wp2_with fail
  have hB : ∃ W0, W0 = ((w.alloc (.cells #[.slice ra L.length rcap, .slice la L.length lcap] 34 (0, 0))).alloc (.cells #[.int .i64 m.kind, .int .u8 m.letter, .int .i64 m.left, .int .i64 m.right, .int .i64 m.times] 123 (0, 0))).alloc (.cells #[.slice none 0 0, .slice none 0 0] 34 (0, 0)) := ⟨_, rfl⟩
  obtain ⟨W0, hW0⟩ := hB
  have F0 : Fr0 w W0 := by rw [hW0]; exact (((Fr0.refl w).alloc _).alloc _).alloc _
  have hz0 : W0.heap[w.heap.size]? = some (.cells #[.slice ra L.length rcap, .slice la L.length lcap] 34 (0, 0)) := by rw [hW0]; exact alloc3_0 w _ _ _
  have hz1 : W0.heap[w.heap.size + 1]? = some (.cells #[.int .i64 m.kind, .int .u8 m.letter, .int .i64 m.left, .int .i64 m.right, .int .i64 m.times] 123 (0, 0)) := by rw [hW0]; exact alloc3_1 w _ _ _
  have hz2 : W0.heap[w.heap.size + 1 + 1]? = some (.cells #[.slice none 0 0, .slice none 0 0] 34 (0, 0)) := by rw [hW0]; exact alloc3_2 w _ _ _
  rw [← hW0]
  obtain ⟨Z, hZ⟩ : ∃ Z, Z = w.heap.size := ⟨_, rfl⟩
  rw [← hZ] at hz0 hz1 hz2 ⊢
  have HZS := Lib.hid hZ
  have hci0 := (F0.cell b (off + i) hlb).trans hci
  have hcj0 := (F0.cell b (off + j) hlb).trans hcj
  have hlb0 : b < W0.heap.size := by have := Fr.size F0; omega
  obtain ⟨a0, a1, la0⟩ := cells2w hz0
  obtain ⟨b0, b1, b2, b3, b4, lb0⟩ := cells5w' hz1
  obtain ⟨g0, g1, gf, lg⟩ := cells2f hz2
  have HF0 := Lib.hid F0
  have HZ0 := Lib.hid hz0
  have HZ1 := Lib.hid hz1
  have HZ2 := Lib.hid hz2
  clear hW0 F0 hz0 hz1 hz2 hZ hci hcj
  refine (CP1.out _).mono ?_
  rintro e w' ⟨rfl, rfl⟩
  go_wp2_with fail
  refine (CP2.out _).mono ?_
  rintro e w' ⟨rfl, rfl⟩
  go_wp2_with fail
  refine (CP3.out _).mono ?_
  rintro e w' ⟨rfl, rfl⟩
  clear CP1 CP2 CP3
  go_wp2_with fail
  refine (CL.out _ HF0.out).mono ?_
  rintro e w3 ⟨rfl, FF⟩
  have hz0 := FF.kept HZ0.out
  have hz1 := FF.kept HZ1.out
  have hz2 := FF.kept HZ2.out
  clear a0 a1 la0 b0 b1 b2 b3 b4 lb0 g0 g1 gf lg
  obtain ⟨a0, a1, la0⟩ := cells2w hz0
  obtain ⟨b0, b1, b2, b3, b4, lb0⟩ := cells5w' hz1
  obtain ⟨g0, g1, gf, lg⟩ := cells2f hz2
  clear hz0 hz1 hz2
  have HFF := Lib.hid FF
  have HSS := Lib.hid (HS.out.kept0 (HF0.out.trans FF))
  clear FF CL
  go_wp2_with fail
  go_quiet (fail)
  have HX := Lib.hid (one_out HF0.out (HFF.out.drewN nq) HZ2.out HZS.out (HSS.out.kept0 ((Fr0.refl _).drewN nq)))
  go_wp2_with fail
  obtain ⟨y1, y2, e0, e1⟩ := HX.out
  exact bodyPost_ret (v := .tuple #[.agg #[.slice ra L.length rcap, .slice la L.length lcap], .int .i64 0]) (by simp [results, Tryz.results58, go_sem, e0, e1]) rfl ⟨_, _, rfl, y1, y2⟩


set_option maxRecDepth 100000 in
set_option maxHeartbeats 4000000 in
theorem ref12_One_pow3 {w : World} {va vb : Value} {L : List Ent} (hS : RSt w va vb L) (hO : SOk L) (hl : L.length ≤ 900) (m : Mk) (hm : m.Ok) (rs : List Int) {B : Nat} {a : Option Addr} {cap : Nat} (hR : RG idv 1 B w a rs) (h0 : 0 < rs.length) (h1 : rs.length ≤ 1000) (kk l r : Int) (hk : m.kind % 4 = kk) (hl' : pickR rs m.left = l) (hr' : pickR rs m.right = r) (kl : isKnown L l) (kr : isKnown L r) (hk3 : kk = 3) (hl0 : l ≠ 0) (n : Int) (hn : (entAt L l).wt.len = n) (hn1 : 1 ≤ n) (hn2 : n ≤ 1152921504606846976) (ht : m.times = 1) :
    Calls Tryz.prog 58 #[.agg #[va, vb], .agg #[.int .i64 m.kind, .int .u8 m.letter, .int .i64 m.left, .int .i64 m.right, .int .i64 m.times], .slice a rs.length cap] w (OnePost w L l) := by
  obtain ⟨⟨ra, rcap, rfl, _⟩, ⟨la, lcap, rfl, _⟩, _, _⟩ := id hS
  obtain ⟨i, b, off, hi, hi2, rfl, hlb, hci⟩ := pick_at hR h0 m.left
  obtain ⟨j, b', off', hj, hj2, hbb, _, hcj⟩ := pick_at hR h0 m.right
  simp only [Option.some.injEq, Addr.mk.injEq, and_true] at hbb
  obtain ⟨rfl, rfl⟩ := hbb
  rw [hl'] at hci
  rw [hr'] at hcj
  have CP1 := Lib.hid (fun W => ref12_Pick m.left rs.length W hm.left.1 hm.left.2 (by omega) (by omega))
  rw [hi] at CP1
  have CP2 := Lib.hid (fun W => ref12_Pick m.right rs.length W hm.right.1 hm.right.2 (by omega) (by omega))
  rw [hj] at CP2
  have CP3 := Lib.hid (fun W => ref12_Pick m.kind 4 W hm.kind.1 hm.kind.2 (by omega) (by omega))
  rw [hk] at CP3
  have ht1 := hm.times.1
  have ht2 := hm.times.2
  have x1 : (0 : Int) ≤ (i : Int) := by omega
  have x2 : (i : Int) < (rs.length : Int) := by omega
  have x3 : (0 : Int) ≤ (j : Int) := by omega
  have x4 : (j : Int) < (rs.length : Int) := by omega
  have HS := Lib.hid hS
  have CL := Lib.hid (fun W (hW : Fr0 w W) => ref12_Length (hS.kept0 hW) (by omega) l kl)
  rw [hn] at CL
  have q0 : (kk == 0) = false := beq_eq_false_iff_ne.2 (by omega)
  have q1 : (kk == 3) = true := beq_iff_eq.2 (by omega)
  have q2 : (l == 0) = false := beq_eq_false_iff_ne.2 (by omega)
  have q3 : decide (m.times ≤ 0) = false := decide_eq_false (by omega)
  have q4 : decide (1152921504606846976 / n < m.times) = false := decide_eq_false (by have := Int.le_ediv_of_mul_le (a := 1) (b := 1152921504606846976) (show 0 < n by omega) (by omega); omega)
  have q5 : (m.times == 1) = true := beq_iff_eq.2 ht
  clear hk3 hl0 hn ht
  clear hS hO hm hR hk hi hj hl' hr' kl kr
  go_enter Tryz.func58, Tryz.ntmps58
  go_wp2_with fail
  have hB : ∃ W0, W0 = ((w.alloc (.cells #[.slice ra L.length rcap, .slice la L.length lcap] 34 (0, 0))).alloc (.cells #[.int .i64 m.kind, .int .u8 m.letter, .int .i64 m.left, .int .i64 m.right, .int .i64 m.times] 123 (0, 0))).alloc (.cells #[.slice none 0 0, .slice none 0 0] 34 (0, 0)) := ⟨_, rfl⟩
  obtain ⟨W0, hW0⟩ := hB
  have F0 : Fr0 w W0 := by rw [hW0]; exact (((Fr0.refl w).alloc _).alloc _).alloc _
  have hz0 : W0.heap[w.heap.size]? = some (.cells #[.slice ra L.length rcap, .slice la L.length lcap] 34 (0, 0)) := by rw [hW0]; exact alloc3_0 w _ _ _
  have hz1 : W0.heap[w.heap.size + 1]? = some (.cells #[.int .i64 m.kind, .int .u8 m.letter, .int .i64 m.left, .int .i64 m.right, .int .i64 m.times] 123 (0, 0)) := by rw [hW0]; exact alloc3_1 w _ _ _
  have hz2 : W0.heap[w.heap.size + 1 + 1]? = some (.cells #[.slice none 0 0, .slice none 0 0] 34 (0, 0)) := by rw [hW0]; exact alloc3_2 w _ _ _
  rw [← hW0]
  obtain ⟨Z, hZ⟩ : ∃ Z, Z = w.heap.size := ⟨_, rfl⟩
  rw [← hZ] at hz0 hz1 hz2 ⊢
  have HZS := Lib.hid hZ
  have hci0 := (F0.cell b (off + i) hlb).trans hci
  have hcj0 := (F0.cell b (off + j) hlb).trans hcj
  have hlb0 : b < W0.heap.size := by have := Fr.size F0; omega
  obtain ⟨a0, a1, la0⟩ := cells2w hz0
  obtain ⟨b0, b1, b2, b3, b4, lb0⟩ := cells5w' hz1
  obtain ⟨g0, g1, gf, lg⟩ := cells2f hz2
  have HF0 := Lib.hid F0
  have HZ0 := Lib.hid hz0
  have HZ1 := Lib.hid hz1
  have HZ2 := Lib.hid hz2
  clear hW0 F0 hz0 hz1 hz2 hZ hci hcj
  refine (CP1.out _).mono ?_
  rintro e w' ⟨rfl, rfl⟩
  go_wp2_with fail
  refine (CP2.out _).mono ?_
  rintro e w' ⟨rfl, rfl⟩
  go_wp2_with fail
  refine (CP3.out _).mono ?_
  rintro e w' ⟨rfl, rfl⟩
  clear CP1 CP2 CP3
  go_wp2_with fail
  refine (CL.out _ HF0.out).mono ?_
  rintro e w3 ⟨rfl, FF⟩
  have hz0 := FF.kept HZ0.out
  have hz1 := FF.kept HZ1.out
  have hz2 := FF.kept HZ2.out
  clear a0 a1 la0 b0 b1 b2 b3 b4 lb0 g0 g1 gf lg
  obtain ⟨a0, a1, la0⟩ := cells2w hz0
  obtain ⟨b0, b1, b2, b3, b4, lb0⟩ := cells5w' hz1
  obtain ⟨g0, g1, gf, lg⟩ := cells2f hz2
  clear hz0 hz1 hz2
  have HFF := Lib.hid FF
  have HSS := Lib.hid (HS.out.kept0 (HF0.out.trans FF))
  clear FF CL
  go_wp2_with fail
  go_quiet (fail)
  have HX := Lib.hid (one_out HF0.out (HFF.out.drewN nq) HZ2.out HZS.out (HSS.out.kept0 ((Fr0.refl _).drewN nq)))
  go_wp2_with fail
  obtain ⟨y1, y2, e0, e1⟩ := HX.out
  exact bodyPost_ret (v := .tuple #[.agg #[.slice ra L.length rcap, .slice la L.length lcap], .int .i64 l]) (by simp [results, Tryz.results58, go_sem, e0, e1]) rfl ⟨_, _, rfl, y1, y2⟩


set_option maxRecDepth 100000 in
set_option maxHeartbeats 4000000 in
theorem ref12_One_pow4 {w : World} {va vb : Value} {L : List Ent} (hS : RSt w va vb L) (hO : SOk L) (hl : L.length ≤ 900) (m : Mk) (hm : m.Ok) (rs : List Int) {B : Nat} {a : Option Addr} {cap : Nat} (hR : RG idv 1 B w a rs) (h0 : 0 < rs.length) (h1 : rs.length ≤ 1000) (kk l r : Int) (hk : m.kind % 4 = kk) (hl' : pickR rs m.left = l) (hr' : pickR rs m.right = r) (kl : isKnown L l) (kr : isKnown L r) (hk3 : kk = 3) (hl0 : l ≠ 0) (n : Int) (hn : (entAt L l).wt.len = n) (hn1 : 1 ≤ n) (hn2 : n ≤ 1152921504606846976) (ht : 1 < m.times) (hd : ¬ 1152921504606846976 / n < m.times) :
    Calls Tryz.prog 58 #[.agg #[va, vb], .agg #[.int .i64 m.kind, .int .u8 m.letter, .int .i64 m.left, .int .i64 m.right, .int .i64 m.times], .slice a rs.length cap] w (OnePost w (addL L (powEnt L l m.times)) (addI L (powEnt L l m.times))) := by
  obtain ⟨⟨ra, rcap, rfl, _⟩, ⟨la, lcap, rfl, _⟩, _, _⟩ := id hS
  obtain ⟨i, b, off, hi, hi2, rfl, hlb, hci⟩ := pick_at hR h0 m.left
  obtain ⟨j, b', off', hj, hj2, hbb, _, hcj⟩ := pick_at hR h0 m.right
  simp only [Option.some.injEq, Addr.mk.injEq, and_true] at hbb
  obtain ⟨rfl, rfl⟩ := hbb
  rw [hl'] at hci
  rw [hr'] at hcj
  have CP1 := Lib.hid (fun W => ref12_Pick m.left rs.length W hm.left.1 hm.left.2 (by omega) (by omega))
  rw [hi] at CP1
  have CP2 := Lib.hid (fun W => ref12_Pick m.right rs.length W hm.right.1 hm.right.2 (by omega) (by omega))
  rw [hj] at CP2
  have CP3 := Lib.hid (fun W => ref12_Pick m.kind 4 W hm.kind.1 hm.kind.2 (by omega) (by omega))
  rw [hk] at CP3
  have ht1 := hm.times.1
  have ht2 := hm.times.2
  have x1 : (0 : Int) ≤ (i : Int) := by omega
  have x2 : (i : Int) < (rs.length : Int) := by omega
  have x3 : (0 : Int) ≤ (j : Int) := by omega
  have x4 : (j : Int) < (rs.length : Int) := by omega
  have HS := Lib.hid hS
  have CL := Lib.hid (fun W (hW : Fr0 w W) => ref12_Length (hS.kept0 hW) (by omega) l kl)
  rw [hn] at CL
  have CA : Hid (∀ W, Fr0 w W → Calls Tryz.prog 99 #[.agg #[.slice ra L.length rcap, .slice la L.length lcap], .agg #[.int .i64 3, .int .u8 0, .int .i64 l, .int .i64 0, .int .i64 m.times], .int .i64 (n * m.times)] W (OnePost W (addL L (powEnt L l m.times)) (addI L (powEnt L l m.times)))) := by
    intro W hW
    have := ref12_Add (hS.kept0 hW) (powEnt L l m.times) (by omega)
    rw [← hn]
    exact this
  have q0 : (kk == 0) = false := beq_eq_false_iff_ne.2 (by omega)
  have q1 : (kk == 3) = true := beq_iff_eq.2 (by omega)
  have q2 : (l == 0) = false := beq_eq_false_iff_ne.2 (by omega)
  have q3 : decide (m.times ≤ 0) = false := decide_eq_false (by omega)
  have q4 : decide (1152921504606846976 / n < m.times) = false := decide_eq_false hd
  have q5 : (m.times == 1) = false := beq_eq_false_iff_ne.2 (by omega)
  have hmu : n * m.times ≤ 1152921504606846976 := by
    have h1 : m.times ≤ 1152921504606846976 / n := by omega
    have h2 := (Int.le_ediv_iff_mul_le (show 0 < n by omega)).1 h1
    rw [Int.mul_comm]; exact h2
  have hmu0 : 0 ≤ n * m.times := Int.mul_nonneg (by omega) (by omega)
  have q6 := IntWalk.i64_in (n * m.times) (by omega)
  clear hk3 hl0 hn hd
  clear hS hO hm hR hk hi hj hl' hr' kl kr
  go_enter Tryz.func58, Tryz.ntmps58
  go_wp2_with fail
  have hB : ∃ W0, W0 = ((w.alloc (.cells #[.slice ra L.length rcap, .slice la L.length lcap] 34 (0, 0))).alloc (.cells #[.int .i64 m.kind, .int .u8 m.letter, .int .i64 m.left, .int .i64 m.right, .int .i64 m.times] 123 (0, 0))).alloc (.cells #[.slice none 0 0, .slice none 0 0] 34 (0, 0)) := ⟨_, rfl⟩
  obtain ⟨W0, hW0⟩ := hB
  have F0 : Fr0 w W0 := by rw [hW0]; exact (((Fr0.refl w).alloc _).alloc _).alloc _
  have hz0 : W0.heap[w.heap.size]? = some (.cells #[.slice ra L.length rcap, .slice la L.length lcap] 34 (0, 0)) := by rw [hW0]; exact alloc3_0 w _ _ _
  have hz1 : W0.heap[w.heap.size + 1]? = some (.cells #[.int .i64 m.kind, .int .u8 m.letter, .int .i64 m.left, .int .i64 m.right, .int .i64 m.times] 123 (0, 0)) := by rw [hW0]; exact alloc3_1 w _ _ _
  have hz2 : W0.heap[w.heap.size + 1 + 1]? = some (.cells #[.slice none 0 0, .slice none 0 0] 34 (0, 0)) := by rw [hW0]; exact alloc3_2 w _ _ _
  rw [← hW0]
  obtain ⟨Z, hZ⟩ : ∃ Z, Z = w.heap.size := ⟨_, rfl⟩
  rw [← hZ] at hz0 hz1 hz2 ⊢
  have HZS := Lib.hid hZ
  have hci0 := (F0.cell b (off + i) hlb).trans hci
  have hcj0 := (F0.cell b (off + j) hlb).trans hcj
  have hlb0 : b < W0.heap.size := by have := Fr.size F0; omega
  obtain ⟨a0, a1, la0⟩ := cells2w hz0
  obtain ⟨b0, b1, b2, b3, b4, lb0⟩ := cells5w' hz1
  obtain ⟨g0, g1, gf, lg⟩ := cells2f hz2
  have HF0 := Lib.hid F0
  have HZ0 := Lib.hid hz0
  have HZ1 := Lib.hid hz1
  have HZ2 := Lib.hid hz2
  clear hW0 F0 hz0 hz1 hz2 hZ hci hcj
  refine (CP1.out _).mono ?_
  rintro e w' ⟨rfl, rfl⟩
  go_wp2_with fail
  refine (CP2.out _).mono ?_
  rintro e w' ⟨rfl, rfl⟩
  go_wp2_with fail
  refine (CP3.out _).mono ?_
  rintro e w' ⟨rfl, rfl⟩
  clear CP1 CP2 CP3
  go_wp2_with fail
  refine (CL.out _ HF0.out).mono ?_
  rintro e w3 ⟨rfl, FF⟩
  have hz0 := FF.kept HZ0.out
  have hz1 := FF.kept HZ1.out
  have hz2 := FF.kept HZ2.out
  clear a0 a1 la0 b0 b1 b2 b3 b4 lb0 g0 g1 gf lg
  obtain ⟨a0, a1, la0⟩ := cells2w hz0
  obtain ⟨b0, b1, b2, b3, b4, lb0⟩ := cells5w' hz1
  obtain ⟨g0, g1, gf, lg⟩ := cells2f hz2
  clear hz0 hz1 hz2
  have FALL0 := Lib.hid FF
  clear FF CL
  go_wp2_with fail
  go_quiet (fail)
  have FALL := Lib.hid (FALL0.out.drewN nq)
  clear FALL0
  go_wp2_with fail
  refine (CA.out _ (HF0.out.trans FALL.out)).mono ?_
  rintro e w5 ⟨va', vb', rfl, f5, hs5⟩
  have HX := Lib.hid (one_out HF0.out (FALL.out.trans f5) HZ2.out HZS.out hs5)
  obtain ⟨⟨ra', rcap', rfl, _⟩, ⟨la', lcap', rfl, _⟩, _, _⟩ := id hs5
  obtain ⟨g0', g1', gf', lg'⟩ := cells2f ((FALL.out.trans f5).kept HZ2.out)
  clear f5 hs5 CA g0 g1 gf lg a0 a1 la0 b0 b1 b2 b3 b4 lb0
  go_wp2_with fail
  obtain ⟨y1, y2, e0, e1⟩ := HX.out
  exact bodyPost_ret (v := .tuple #[.agg #[.slice ra' _ rcap', .slice la' _ lcap'], .int .i64 _]) (by simp [results, Tryz.results58, go_sem, e0, e1]) rfl ⟨_, _, rfl, y1, y2⟩


set_option maxRecDepth 100000 in
set_option maxHeartbeats 4000000 in
theorem ref12_One_long {w : World} {va vb : Value} {L : List Ent} (hS : RSt w va vb L) (hO : SOk L) (hl : L.length ≤ 900) (m : Mk) (hm : m.Ok) (rs : List Int) {B : Nat} {a : Option Addr} {cap : Nat} (hR : RG idv 1 B w a rs) (h0 : 0 < rs.length) (h1 : rs.length ≤ 1000) (kk l r : Int) (hk : m.kind % 4 = kk) (hl' : pickR rs m.left = l) (hr' : pickR rs m.right = r) (kl : isKnown L l) (kr : isKnown L r) (hk3 : kk = 1 ∨ kk = 2) (hl0 : l ≠ 0) (hr0 : r ≠ 0) (n k : Int) (hn : (entAt L l).wt.len = n) (hn1 : 0 ≤ n) (hn2 : n ≤ 1152921504606846976) (hkn : (entAt L r).wt.len = k) (hk1 : 0 ≤ k) (hk2 : k ≤ 1152921504606846976) (hd : 1152921504606846976 - k < n) :
    Calls Tryz.prog 58 #[.agg #[va, vb], .agg #[.int .i64 m.kind, .int .u8 m.letter, .int .i64 m.left, .int .i64 m.right, .int .i64 m.times], .slice a rs.length cap] w (OnePost w L 0) := by
  obtain ⟨⟨ra, rcap, rfl, _⟩, ⟨la, lcap, rfl, _⟩, _, _⟩ := id hS
  obtain ⟨i, b, off, hi, hi2, rfl, hlb, hci⟩ := pick_at hR h0 m.left
  obtain ⟨j, b', off', hj, hj2, hbb, _, hcj⟩ := pick_at hR h0 m.right
  simp only [Option.some.injEq, Addr.mk.injEq, and_true] at hbb
  obtain ⟨rfl, rfl⟩ := hbb
  rw [hl'] at hci
  rw [hr'] at hcj
  have CP1 := Lib.hid (fun W => ref12_Pick m.left rs.length W hm.left.1 hm.left.2 (by omega) (by omega))
  rw [hi] at CP1
  have CP2 := Lib.hid (fun W => ref12_Pick m.right rs.length W hm.right.1 hm.right.2 (by omega) (by omega))
  rw [hj] at CP2
  have CP3 := Lib.hid (fun W => ref12_Pick m.kind 4 W hm.kind.1 hm.kind.2 (by omega) (by omega))
  rw [hk] at CP3
  have ht1 := hm.times.1
  have ht2 := hm.times.2
  have x1 : (0 : Int) ≤ (i : Int) := by omega
  have x2 : (i : Int) < (rs.length : Int) := by omega
  have x3 : (0 : Int) ≤ (j : Int) := by omega
  have x4 : (j : Int) < (rs.length : Int) := by omega
  have HS := Lib.hid hS
  have CL := Lib.hid (fun W (hW : Fr0 w W) => ref12_Length (hS.kept0 hW) (by omega) l kl)
  rw [hn] at CL
  have CR := Lib.hid (fun W (hW : Fr0 w W) => ref12_Length (hS.kept0 hW) (by omega) r kr)
  rw [hkn] at CR
  have q0 : (kk == 0) = false := beq_eq_false_iff_ne.2 (by omega)
  have q1 : (kk == 3) = false := beq_eq_false_iff_ne.2 (by omega)
  have q2 : (l == 0) = false := beq_eq_false_iff_ne.2 (by omega)
  have q3 : (r == 0) = false := beq_eq_false_iff_ne.2 (by omega)
  have q4 : decide (1152921504606846976 - k < n) = true := decide_eq_true hd
  have qw := IntWalk.i64_in (1152921504606846976 - k) (by omega)
  clear hl0 hr0 hn hkn hd
  clear hS hO hm hR hk hi hj hl' hr' kl kr
  go_enter Tryz.func58, Tryz.ntmps58
  go_wp2_with fail
  have hB : ∃ W0, W0 = ((w.alloc (.cells #[.slice ra L.length rcap, .slice la L.length lcap] 34 (0, 0))).alloc (.cells #[.int .i64 m.kind, .int .u8 m.letter, .int .i64 m.left, .int .i64 m.right, .int .i64 m.times] 123 (0, 0))).alloc (.cells #[.slice none 0 0, .slice none 0 0] 34 (0, 0)) := ⟨_, rfl⟩
  obtain ⟨W0, hW0⟩ := hB
  have F0 : Fr0 w W0 := by rw [hW0]; exact (((Fr0.refl w).alloc _).alloc _).alloc _
  have hz0 : W0.heap[w.heap.size]? = some (.cells #[.slice ra L.length rcap, .slice la L.length lcap] 34 (0, 0)) := by rw [hW0]; exact alloc3_0 w _ _ _
  have hz1 : W0.heap[w.heap.size + 1]? = some (.cells #[.int .i64 m.kind, .int .u8 m.letter, .int .i64 m.left, .int .i64 m.right, .int .i64 m.times] 123 (0, 0)) := by rw [hW0]; exact alloc3_1 w _ _ _
  have hz2 : W0.heap[w.heap.size + 1 + 1]? = some (.cells #[.slice none 0 0, .slice none 0 0] 34 (0, 0)) := by rw [hW0]; exact alloc3_2 w _ _ _
  rw [← hW0]
  obtain ⟨Z, hZ⟩ : ∃ Z, Z = w.heap.size := ⟨_, rfl⟩
  rw [← hZ] at hz0 hz1 hz2 ⊢
  have HZS := Lib.hid hZ
  have hci0 := (F0.cell b (off + i) hlb).trans hci
  have hcj0 := (F0.cell b (off + j) hlb).trans hcj
  have hlb0 : b < W0.heap.size := by have := Fr.size F0; omega
  obtain ⟨a0, a1, la0⟩ := cells2w hz0
  obtain ⟨b0, b1, b2, b3, b4, lb0⟩ := cells5w' hz1
  obtain ⟨g0, g1, gf, lg⟩ := cells2f hz2
  have HF0 := Lib.hid F0
  have HZ0 := Lib.hid hz0
  have HZ1 := Lib.hid hz1
  have HZ2 := Lib.hid hz2
  clear hW0 F0 hz0 hz1 hz2 hZ hci hcj
  refine (CP1.out _).mono ?_
  rintro e w' ⟨rfl, rfl⟩
  go_wp2_with fail
  refine (CP2.out _).mono ?_
  rintro e w' ⟨rfl, rfl⟩
  go_wp2_with fail
  refine (CP3.out _).mono ?_
  rintro e w' ⟨rfl, rfl⟩
  clear CP1 CP2 CP3
  have HKEY : Hid (∀ W, Fr0 W0 W → Fr0 W0 W ∧ W.cell? ⟨Z, 0, none⟩ = some (.slice ra L.length rcap) ∧ W.cell? ⟨Z, 1, none⟩ = some (.slice la L.length lcap)) := fun W hW => ⟨hW, (cells2w (hW.kept HZ0.out)).1, (cells2w (hW.kept HZ0.out)).2.1⟩
  have hfr0 : Fr0 W0 W0 := Fr0.refl W0
  go_wp2_with fail
  go_region_held3 (fun w' => Fr0 W0 w' ∧ w'.cell? ⟨Z, 0, none⟩ = some (.slice ra L.length rcap) ∧ w'.cell? ⟨Z, 1, none⟩ = some (.slice la L.length lcap))
    (exact HKEY.out _ (by first | exact Fr0.refl _ | exact (Fr0.refl _).drew | exact (Fr0.refl _).drew.trans (by assumption) | exact ((Fr0.refl _).drew.trans (by assumption)).trans (by assumption)))
    ((first
      | (go_at_call 15; (with_reducible refine Calls.mono (CL.out _ (HF0.out.trans (by first | exact (Fr0.refl _).drew | exact (Fr0.refl _).drew.trans (by assumption) | exact ((Fr0.refl _).drew.trans (by assumption)).trans (by assumption)))) ?_); rintro e w3 ⟨rfl, hf3⟩)
      | (go_at_call 15; (with_reducible refine Calls.mono (CR.out _ (HF0.out.trans (by first | exact (Fr0.refl _).drew | exact (Fr0.refl _).drew.trans (by assumption) | exact ((Fr0.refl _).drew.trans (by assumption)).trans (by assumption)))) ?_); rintro e w3 ⟨rfl, hf3⟩)))
  all_goals
    have FF : Fr0 W0 w3 := ((Fr0.refl W0).drew.trans (by assumption)).trans hf3
    have hz2 := FF.kept HZ2.out
    have hz0 := FF.kept HZ0.out
    clear a0 a1 la0 b0 b1 b2 b3 b4 lb0 g0 g1 gf lg
    obtain ⟨a0, a1, la0⟩ := cells2w hz0
    obtain ⟨g0, g1, gf, lg⟩ := cells2f hz2
    have HX := Lib.hid (one_out HF0.out FF HZ2.out HZS.out (HS.out.kept0 (HF0.out.trans FF)))
    clear hz0 hz2 FF CL CR hfr0
    go_wp2_with fail
    obtain ⟨y1, y2, e0, e1⟩ := HX.out
    exact bodyPost_ret (v := .tuple #[.agg #[.slice ra L.length rcap, .slice la L.length lcap], .int .i64 0]) (by simp [results, Tryz.results58, go_sem, e0, e1]) rfl ⟨_, _, rfl, y1, y2⟩


set_option maxRecDepth 100000 in
set_option maxHeartbeats 4000000 in
theorem ref12_One_pair {w : World} {va vb : Value} {L : List Ent} (hS : RSt w va vb L) (hO : SOk L) (hl : L.length ≤ 900) (m : Mk) (hm : m.Ok) (rs : List Int) {B : Nat} {a : Option Addr} {cap : Nat} (hR : RG idv 1 B w a rs) (h0 : 0 < rs.length) (h1 : rs.length ≤ 1000) (kk l r : Int) (hk : m.kind % 4 = kk) (hl' : pickR rs m.left = l) (hr' : pickR rs m.right = r) (kl : isKnown L l) (kr : isKnown L r) (hk3 : kk = 1 ∨ kk = 2) (hl0 : l ≠ 0) (hr0 : r ≠ 0) (n k : Int) (hn : (entAt L l).wt.len = n) (hn1 : 0 ≤ n) (hn2 : n ≤ 1152921504606846976) (hkn : (entAt L r).wt.len = k) (hk1 : 0 ≤ k) (hk2 : k ≤ 1152921504606846976) (hd : ¬ 1152921504606846976 - k < n) :
    Calls Tryz.prog 58 #[.agg #[va, vb], .agg #[.int .i64 m.kind, .int .u8 m.letter, .int .i64 m.left, .int .i64 m.right, .int .i64 m.times], .slice a rs.length cap] w (OnePost w (addL L (pairEnt L l r)) (addI L (pairEnt L l r))) := by
  obtain ⟨⟨ra, rcap, rfl, _⟩, ⟨la, lcap, rfl, _⟩, _, _⟩ := id hS
  obtain ⟨i, b, off, hi, hi2, rfl, hlb, hci⟩ := pick_at hR h0 m.left
  obtain ⟨j, b', off', hj, hj2, hbb, _, hcj⟩ := pick_at hR h0 m.right
  simp only [Option.some.injEq, Addr.mk.injEq, and_true] at hbb
  obtain ⟨rfl, rfl⟩ := hbb
  rw [hl'] at hci
  rw [hr'] at hcj
  have CP1 := Lib.hid (fun W => ref12_Pick m.left rs.length W hm.left.1 hm.left.2 (by omega) (by omega))
  rw [hi] at CP1
  have CP2 := Lib.hid (fun W => ref12_Pick m.right rs.length W hm.right.1 hm.right.2 (by omega) (by omega))
  rw [hj] at CP2
  have CP3 := Lib.hid (fun W => ref12_Pick m.kind 4 W hm.kind.1 hm.kind.2 (by omega) (by omega))
  rw [hk] at CP3
  have ht1 := hm.times.1
  have ht2 := hm.times.2
  have x1 : (0 : Int) ≤ (i : Int) := by omega
  have x2 : (i : Int) < (rs.length : Int) := by omega
  have x3 : (0 : Int) ≤ (j : Int) := by omega
  have x4 : (j : Int) < (rs.length : Int) := by omega
  have HS := Lib.hid hS
  have CL := Lib.hid (fun W (hW : Fr0 w W) => ref12_Length (hS.kept0 hW) (by omega) l kl)
  rw [hn] at CL
  have CR := Lib.hid (fun W (hW : Fr0 w W) => ref12_Length (hS.kept0 hW) (by omega) r kr)
  rw [hkn] at CR
  have CA : Hid (∀ W, Fr0 w W → Calls Tryz.prog 99 #[.agg #[.slice ra L.length rcap, .slice la L.length lcap], .agg #[.int .i64 2, .int .u8 0, .int .i64 l, .int .i64 r, .int .i64 0], .int .i64 (n + k)] W (OnePost W (addL L (pairEnt L l r)) (addI L (pairEnt L l r)))) := by
    intro W hW
    have := ref12_Add (hS.kept0 hW) (pairEnt L l r) (by omega)
    rw [← hn, ← hkn]
    exact this
  have q0 : (kk == 0) = false := beq_eq_false_iff_ne.2 (by omega)
  have q1 : (kk == 3) = false := beq_eq_false_iff_ne.2 (by omega)
  have q2 : (l == 0) = false := beq_eq_false_iff_ne.2 (by omega)
  have q3 : (r == 0) = false := beq_eq_false_iff_ne.2 (by omega)
  have q4 : decide (1152921504606846976 - k < n) = false := decide_eq_false hd
  have qw := IntWalk.i64_in (1152921504606846976 - k) (by omega)
  have qs := IntWalk.i64_in (n + k) (by omega)
  clear hl0 hr0 hn hkn hd
  clear hS hO hm hR hk hi hj hl' hr' kl kr
  go_enter Tryz.func58, Tryz.ntmps58
  go_wp2_with fail
  have hB : ∃ W0, W0 = ((w.alloc (.cells #[.slice ra L.length rcap, .slice la L.length lcap] 34 (0, 0))).alloc (.cells #[.int .i64 m.kind, .int .u8 m.letter, .int .i64 m.left, .int .i64 m.right, .int .i64 m.times] 123 (0, 0))).alloc (.cells #[.slice none 0 0, .slice none 0 0] 34 (0, 0)) := ⟨_, rfl⟩
  obtain ⟨W0, hW0⟩ := hB
  have F0 : Fr0 w W0 := by rw [hW0]; exact (((Fr0.refl w).alloc _).alloc _).alloc _
  have hz0 : W0.heap[w.heap.size]? = some (.cells #[.slice ra L.length rcap, .slice la L.length lcap] 34 (0, 0)) := by rw [hW0]; exact alloc3_0 w _ _ _
  have hz1 : W0.heap[w.heap.size + 1]? = some (.cells #[.int .i64 m.kind, .int .u8 m.letter, .int .i64 m.left, .int .i64 m.right, .int .i64 m.times] 123 (0, 0)) := by rw [hW0]; exact alloc3_1 w _ _ _
  have hz2 : W0.heap[w.heap.size + 1 + 1]? = some (.cells #[.slice none 0 0, .slice none 0 0] 34 (0, 0)) := by rw [hW0]; exact alloc3_2 w _ _ _
  rw [← hW0]
  obtain ⟨Z, hZ⟩ : ∃ Z, Z = w.heap.size := ⟨_, rfl⟩
  rw [← hZ] at hz0 hz1 hz2 ⊢
  have HZS := Lib.hid hZ
  have hci0 := (F0.cell b (off + i) hlb).trans hci
  have hcj0 := (F0.cell b (off + j) hlb).trans hcj
  have hlb0 : b < W0.heap.size := by have := Fr.size F0; omega
  obtain ⟨a0, a1, la0⟩ := cells2w hz0
  obtain ⟨b0, b1, b2, b3, b4, lb0⟩ := cells5w' hz1
  obtain ⟨g0, g1, gf, lg⟩ := cells2f hz2
  have HF0 := Lib.hid F0
  have HZ0 := Lib.hid hz0
  have HZ1 := Lib.hid hz1
  have HZ2 := Lib.hid hz2
  clear hW0 F0 hz0 hz1 hz2 hZ hci hcj
  refine (CP1.out _).mono ?_
  rintro e w' ⟨rfl, rfl⟩
  go_wp2_with fail
  refine (CP2.out _).mono ?_
  rintro e w' ⟨rfl, rfl⟩
  go_wp2_with fail
  refine (CP3.out _).mono ?_
  rintro e w' ⟨rfl, rfl⟩
  clear CP1 CP2 CP3
  have HKEY : Hid (∀ W, Fr0 W0 W → Fr0 W0 W ∧ W.cell? ⟨Z, 0, none⟩ = some (.slice ra L.length rcap) ∧ W.cell? ⟨Z, 1, none⟩ = some (.slice la L.length lcap)) := fun W hW => ⟨hW, (cells2w (hW.kept HZ0.out)).1, (cells2w (hW.kept HZ0.out)).2.1⟩
  have hfr0 : Fr0 W0 W0 := Fr0.refl W0
  go_wp2_with fail
  go_region_held3 (fun w' => Fr0 W0 w' ∧ w'.cell? ⟨Z, 0, none⟩ = some (.slice ra L.length rcap) ∧ w'.cell? ⟨Z, 1, none⟩ = some (.slice la L.length lcap))
    (exact HKEY.out _ (by first | exact Fr0.refl _ | exact (Fr0.refl _).drew | exact (Fr0.refl _).drew.trans (by assumption) | exact ((Fr0.refl _).drew.trans (by assumption)).trans (by assumption)))
    ((first
      | (go_at_call 15; (with_reducible refine Calls.mono (CL.out _ (HF0.out.trans (by first | exact (Fr0.refl _).drew | exact (Fr0.refl _).drew.trans (by assumption) | exact ((Fr0.refl _).drew.trans (by assumption)).trans (by assumption)))) ?_); rintro e w3 ⟨rfl, hf3⟩)
      | (go_at_call 15; (with_reducible refine Calls.mono (CR.out _ (HF0.out.trans (by first | exact (Fr0.refl _).drew | exact (Fr0.refl _).drew.trans (by assumption) | exact ((Fr0.refl _).drew.trans (by assumption)).trans (by assumption)))) ?_); rintro e w3 ⟨rfl, hf3⟩)))
  all_goals
    have FF : Fr0 W0 w3 := ((Fr0.refl W0).drew.trans (by assumption)).trans hf3
    have HFF := Lib.hid FF
    have hz2 := FF.kept HZ2.out
    have hz0 := FF.kept HZ0.out
    clear a0 a1 la0 b0 b1 b2 b3 b4 lb0 g0 g1 gf lg
    obtain ⟨a0, a1, la0⟩ := cells2w hz0
    obtain ⟨g0, g1, gf, lg⟩ := cells2f hz2
    clear hz0 hz2 FF hfr0 HKEY
    go_wp2_with fail
    obtain ⟨W1, hW1⟩ : ∃ W1, W1 = w3 := ⟨_, rfl⟩
    rw [← hW1] at HFF g0 g1 gf lg a0 a1 la0 ⊢
    clear hW1
    have HK2 : Hid (∀ W, Fr (fun k => k = Z + 1 + 1) W1 W → Fr (fun k => k = Z + 1 + 1) W1 W ∧ W.cell? ⟨Z, 0, none⟩ = some (.slice ra L.length rcap) ∧ W.cell? ⟨Z, 1, none⟩ = some (.slice la L.length lcap)) := fun W hW => ⟨hW, (cells2w (hW.kept (HFF.out.kept HZ0.out) (by omega))).1, (cells2w (hW.kept (HFF.out.kept HZ0.out) (by omega))).2.1⟩
    go_region_held3 (fun w' => Fr (fun k => k = Z + 1 + 1) W1 w' ∧ w'.cell? ⟨Z, 0, none⟩ = some (.slice ra L.length rcap) ∧ w'.cell? ⟨Z, 1, none⟩ = some (.slice la L.length lcap))
      (exact HK2.out _ (by first | exact (Fr0.refl _).fr | exact (Fr0.refl _).drew.fr | exact ((Fr0.refl _).drew.trans (by assumption)).fr | exact (((Fr0.refl _).drew.trans (by assumption)).trans (by assumption)).fr | exact ((((Fr0.refl _).drew.trans (by assumption)).trans (by assumption)).trans (by assumption)).fr | exact Fr.setCell (S := fun k => k = Z + 1 + 1) (Fr.setCell (S := fun k => k = Z + 1 + 1) ((((Fr0.refl _).drew.trans (by assumption)).trans (by assumption)).trans (by assumption)).fr _ _ (fun _ => rfl)) _ _ (fun _ => rfl)))
      ((first
        | (go_at_call 15; (with_reducible refine Calls.mono (CL.out _ ((HF0.out.trans HFF.out).trans (by first | exact (Fr0.refl _).drew | exact (Fr0.refl _).drew.trans (by assumption) | exact ((Fr0.refl _).drew.trans (by assumption)).trans (by assumption)))) ?_); rintro e w3 ⟨rfl, hf3⟩)
        | (go_at_call 15; (with_reducible refine Calls.mono (CR.out _ ((HF0.out.trans HFF.out).trans (by first | exact (Fr0.refl _).drew | exact (Fr0.refl _).drew.trans (by assumption) | exact ((Fr0.refl _).drew.trans (by assumption)).trans (by assumption)))) ?_); rintro e w3 ⟨rfl, hf3⟩)
        | (go_at_call 99; (with_reducible refine Calls.mono (CA.out _ ((HF0.out.trans HFF.out).trans (by first | exact (Fr0.refl _).drew | exact (Fr0.refl _).drew.trans (by assumption) | exact ((Fr0.refl _).drew.trans (by assumption)).trans (by assumption)))) ?_); rintro e w3 ⟨va', vb', rfl, hf3, hs5⟩; obtain ⟨⟨ra', rcap', rfl, _⟩, ⟨la', lcap', rfl, _⟩, _, _⟩ := id hs5; have HS5 := Lib.hid hs5; have hff5 : Fr0 W1 w3 := (((Fr0.refl W1).drew.trans (by assumption)).trans (by assumption)).trans hf3; obtain ⟨g0', g1', gf', lg'⟩ := cells2f ((HFF.out.trans hff5).kept HZ2.out); have HX5 := Lib.hid (one_out HF0.out (HFF.out.trans hff5) HZ2.out HZS.out hs5); clear hs5 hff5)))
    all_goals
      go_wp2_with fail
      obtain ⟨y1, y2, e0, e1⟩ := HX5.out
      exact bodyPost_ret (v := .tuple #[.agg #[.slice ra' _ rcap', .slice la' _ lcap'], .int .i64 _]) (by simp [results, Tryz.results58, go_sem, e0, e1]) rfl ⟨_, _, rfl, y1, y2⟩


end Go.Proofs.YtclpndigmidjkaaGreat

/- The walks of blame.Share and blame.At over any list of rows. -/
import Derived.Test.YtbokcmkbnkncoaaBeg
set_option linter.unusedSimpArgs false
set_option linter.unusedVariables false
namespace Go.Proofs.Ytbokcmkbnkncoaa
open Go.RowKit

/-- The rows lie at an address (if there are any). -/
def RowsAt (w : World) (a : Option Addr) (rs : List Rw) : Prop :=
  ∀ i (h : i < rs.length), ∃ b off, a = some ⟨b, off, none⟩ ∧ b < w.heap.size ∧ w.cell? ⟨b, off + i * 4, none⟩ = some (.int .i64 rs[i].fr) ∧ w.cell? ⟨b, off + i * 4 + 1, none⟩ = some (.int .i64 rs[i].n) ∧
    w.cell? ⟨b, off + i * 4 + 2, none⟩ = some (.int .i64 rs[i].ver) ∧ w.cell? ⟨b, off + i * 4 + 3, none⟩ = some (.int .i64 rs[i].org)

theorem RowsAt.kept0 {w w' : World} {a : Option Addr} {rs : List Rw} (h : RowsAt w a rs) (hf : Fr0 w w') : RowsAt w' a rs := by
  intro i hi
  obtain ⟨b, off, h1, h2, h3, h4, h5, h6⟩ := h i hi
  exact ⟨b, off, h1, by have := hf.size'; omega, (hf.cell b _ h2).trans h3, (hf.cell b _ h2).trans h4, (hf.cell b _ h2).trans h5, (hf.cell b _ h2).trans h6⟩

/-- The sum of a version, as Go adds. -/
def share (v : Int) (rs : List Rw) : Int := rs.foldl (fun n r => if r.ver = v then wrap64 (n + r.n) else n) 0

theorem share_snoc (v : Int) (rs : List Rw) (k : Nat) (h : k < rs.length) : share v (rs.take (k + 1)) = if rs[k].ver = v then wrap64 (share v (rs.take k) + rs[k].n) else share v (rs.take k) := by
  unfold share
  rw [List.take_succ_eq_append_getElem h, List.foldl_append]
  rfl

set_option maxRecDepth 100000 in
set_option maxHeartbeats 400000 in
theorem bl_Share {w : World} (a : Option Addr) (cap : Nat) (rs : List Rw) (v : Int) (hR : RowsAt w a rs) (hl : rs.length ≤ 9223372036854775807) :
    Calls Try.prog 19 #[.slice a rs.length cap, .int .i64 v] w fun e w' => e = .returned (.int .i64 (share v rs)) ∧ Fr0 w w' := by
  have HR := Lib.hid hR
  clear hR
  go_enter Try.func19, Try.ntmps19
  go_wp2_with fail
  go_loopw [5, 10] (fun t i wr => ∃ k : Nat, k ≤ rs.length ∧ i = .int .i64 k ∧ t = .int .i64 (share v (rs.take k)) ∧ Fr0 w wr) (fun _ i _ => rs.length - (intOf i).toNat)
  case atStart => exact ⟨0, Nat.zero_le _, rfl, rfl, Fr0.refl _⟩
  case round =>
    obtain ⟨k, hk, rfl, rfl, hfr⟩ := hrel
    by_cases hlt : k < rs.length
    · obtain ⟨b, off, hab, lb, d0, d1, d2, d3⟩ := (HR.out.kept0 hfr) k hlt
      have hsn := share_snoc v rs k hlt
      subst hab
      generalize share v (rs.take k) = s0 at *
      generalize rs[k] = r at *
      by_cases hv : r.ver = v
      · rw [if_pos hv] at hsn
        have HSN := Lib.hid hsn
        have hvb : (r.ver == v) = true := by simpa using hv
        clear hsn hv
        go_wp2_with fail
        go_roundw
        case rel => exact ⟨k + 1, by omega, by go_num, by rw [HSN.out], hfr.alloc _⟩
        case measure => simp [intOf]; omega
      · rw [if_neg hv] at hsn
        have HSN := Lib.hid hsn
        have hvb : (r.ver == v) = false := by simpa using hv
        clear hsn hv
        go_wp2_with fail
        go_roundw
        case rel => exact ⟨k + 1, by omega, by go_num, by rw [HSN.out], hfr.alloc _⟩
        case measure => simp [intOf]; omega
    · have hke : k = rs.length := by omega
      have HS : Hid (share v (rs.take k) = share v rs) := by rw [hke, List.take_length]; exact rfl
      clear hke
      go_wp2_with fail
      go_ret
      exact ⟨ret_int HS.out, hfr⟩

/-- Does a row contain an offset? -/
def hitB (at_ : Int) (r : Rw) : Bool := decide (0 < r.n) && decide (r.fr ≤ at_) && decide (at_ - r.fr < r.n)

/-- The first row that contains an offset, or no row. -/
def atR (at_ : Int) (rs : List Rw) : Rw × Bool := match rs.find? (hitB at_) with | some r => (r, true) | none => (⟨0, 0, 0, 0⟩, false)

theorem find_none_snoc {at_ : Int} {rs : List Rw} {k : Nat} (h : k < rs.length) (h1 : (rs.take k).find? (hitB at_) = none) (h2 : hitB at_ rs[k] = false) : (rs.take (k + 1)).find? (hitB at_) = none := by
  rw [List.take_succ_eq_append_getElem h, List.find?_append, h1]
  simp [List.find?_cons, h2]

theorem atR_hit {at_ : Int} {rs : List Rw} {k : Nat} (h : k < rs.length) (h1 : (rs.take k).find? (hitB at_) = none) (h2 : hitB at_ rs[k] = true) : atR at_ rs = (rs[k], true) := by
  have e : rs = rs.take k ++ rs[k] :: rs.drop (k + 1) := by rw [← List.drop_eq_getElem_cons h, List.take_append_drop]
  have hf : (rs.take k ++ rs[k] :: rs.drop (k + 1)).find? (hitB at_) = some rs[k] := by
    rw [List.find?_append, h1, List.find?_cons, h2]
    rfl
  rw [← e] at hf
  unfold atR
  rw [hf]

theorem atR_none {at_ : Int} {rs : List Rw} (h1 : rs.find? (hitB at_) = none) : atR at_ rs = (⟨0, 0, 0, 0⟩, false) := by
  unfold atR; rw [h1]

/-- An integer of 64 bits. -/
def i64r (x : Int) : Prop := -9223372036854775808 ≤ x ∧ x ≤ 9223372036854775807

theorem u64_diff {x y : Int} (hx : i64r x) (hy : i64r y) (h : y ≤ x) : IntKind.u64.wrap (IntKind.u64.wrap x - IntKind.u64.wrap y) = x - y := by
  unfold i64r at *
  simp only [IntKind.wrap_u64]
  omega

theorem u64_pos {x : Int} (hx : i64r x) (h : 0 < x) : IntKind.u64.wrap x = x := by
  unfold i64r at *
  rw [IntKind.wrap_u64]
  omega

theorem cells4 {w : World} {b : Nat} {x0 x1 x2 x3 : Value} {t : TypeId} (h : w.heap[b]? = some (.cells #[x0, x1, x2, x3] t (0, 0))) :
    w.cell? ⟨b, 0, none⟩ = some x0 ∧ w.cell? ⟨b, 1, none⟩ = some x1 ∧ w.cell? ⟨b, 2, none⟩ = some x2 ∧ w.cell? ⟨b, 3, none⟩ = some x3 ∧ (∀ o, w.frozen? ⟨b, o, none⟩ = false) ∧ b < w.heap.size :=
  ⟨by rw [cell_of_block h]; rfl, by rw [cell_of_block h]; rfl, by rw [cell_of_block h]; rfl, by rw [cell_of_block h]; rfl, fun o => frozen_of_block h o, lt_of_block h⟩

set_option maxRecDepth 100000 in
set_option maxHeartbeats 1000000 in
theorem bl_At {w : World} (a : Option Addr) (cap : Nat) (rs : List Rw) (at_ : Int) (hR : RowsAt w a rs) (hl : rs.length ≤ 9223372036854775807) (hat : i64r at_) (hrng : ∀ r ∈ rs, i64r r.fr ∧ i64r r.n) :
    Calls Try.prog 20 #[.slice a rs.length cap, .int .i64 at_] w fun e w' => e = .returned (.tuple #[.agg #[.int .i64 (atR at_ rs).1.fr, .int .i64 (atR at_ rs).1.n, .int .i64 (atR at_ rs).1.ver, .int .i64 (atR at_ rs).1.org], .bool (atR at_ rs).2]) ∧ Fr0 w w' := by
  have HR := Lib.hid hR
  have HAT := Lib.hid hat
  have HRNG := Lib.hid hrng
  clear hR hat hrng
  obtain ⟨R, hRR⟩ : ∃ R, atR at_ rs = R := ⟨_, rfl⟩
  rw [hRR]
  have HRR := Lib.hid hRR
  clear hRR
  obtain ⟨A, hA⟩ : ∃ A, A = w.heap.size := ⟨_, rfl⟩
  have HA := Lib.hid hA
  go_enter Try.func20, Try.ntmps20
  go_wp2_with fail
  rw [← hA]
  clear hA
  go_loopw [10] (fun i wr => ∃ k : Nat, k ≤ rs.length ∧ i = .int .i64 k ∧ Hid ((rs.take k).find? (hitB at_) = none) ∧ Fr0 w wr ∧ wr.heap[A]? = some (.cells #[.int .i64 0, .int .i64 0, .int .i64 0, .int .i64 0] 51 (0, 0))) (fun i _ => rs.length - (intOf i).toNat)
  case atStart => exact ⟨0, Nat.zero_le _, rfl, rfl, (Fr0.refl _).alloc _, alloc_at _ _ _ HA.out⟩
  case round =>
    obtain ⟨k, hk, rfl, HN, hfr, hz⟩ := hrel
    obtain ⟨z0, z1, z2, z3, fz, lz⟩ := cells4 hz
    by_cases hlt : k < rs.length
    · obtain ⟨b, off, hab, lb, d0, d1, d2, d3⟩ := (HR.out.kept0 hfr) k hlt
      obtain ⟨r1, r2⟩ := HRNG.out rs[k] (List.getElem_mem _)
      have S1 := Lib.hid (fun h => find_none_snoc hlt HN.out h)
      have S2 := Lib.hid (fun h => (atR_hit hlt HN.out h).symm.trans HRR.out)
      subst hab
      generalize rs[k] = r at *
      have HZ := Lib.hid hz
      clear hz HN
      have nz : ¬ wr.heap.size = A := by omega
      have nz2 : ¬ A = wr.heap.size := by omega
      by_cases h1 : 0 < r.n
      · by_cases h2 : r.fr ≤ at_
        · have u1 := u64_diff HAT.out r1 h2
          have u2 := u64_pos r2 h1
          by_cases h3 : at_ - r.fr < r.n
          · have e1 := S2.out (by simp [hitB, h1, h2, h3])
            subst e1
            clear S1 S2 HRR r1 r2
            go_wp2_with fail
            exact bodyPost_ret (v := .tuple #[.agg #[.int .i64 r.fr, .int .i64 r.n, .int .i64 r.ver, .int .i64 r.org], .bool true]) (by simp [results, Try.results20, go_sem, *]) rfl ⟨rfl, by
              (repeat' (first | (with_reducible exact hfr) | (with_reducible refine Fr0.setCell ?_ _ _ ?_) | (with_reducible refine Fr0.alloc ?_ _) | (with_reducible refine Fr0.drew ?_))) <;> (first | (rw [← HA.out]; dsimp only; omega) | (rw [← HA.out]; exact Nat.le_refl _))⟩
          · have X := S1.out (by simp [hitB, h1, h2, h3])
            have X2 := Lib.hid X
            clear S1 S2 HRR r1 r2 X
            go_wp2_with fail
            go_roundw
            case rel => exact ⟨k + 1, by omega, by go_num, X2, hfr.alloc _, (alloc_lt _ _ _ lz).trans HZ.out⟩
            case measure => simp [intOf]; omega
        · have X := S1.out (by simp [hitB, h1, h2])
          have hd2 : decide (r.fr ≤ at_) = false := decide_eq_false h2
          have X2 := Lib.hid X
          clear S1 S2 HRR r1 r2 X
          go_wp2_with fail
          go_roundw
          case rel => exact ⟨k + 1, by omega, by go_num, X2, hfr.alloc _, (alloc_lt _ _ _ lz).trans HZ.out⟩
          case measure => simp [intOf]; omega
      · have X := S1.out (by simp [hitB, h1])
        have hd1 : decide (0 < r.n) = false := decide_eq_false h1
        have X2 := Lib.hid X
        clear S1 S2 HRR r1 r2 X
        go_wp2_with fail
        go_roundw
        case rel => exact ⟨k + 1, by omega, by go_num, X2, hfr.alloc _, (alloc_lt _ _ _ lz).trans HZ.out⟩
        case measure => simp [intOf]; omega
    · have hke : k = rs.length := by omega
      have hN := HN.out
      rw [hke, List.take_length] at hN
      have e1 := (atR_none hN).symm.trans HRR.out
      subst e1
      clear hke hN HN hz
      go_wp2_with fail
      exact bodyPost_ret (v := .tuple #[.agg #[.int .i64 0, .int .i64 0, .int .i64 0, .int .i64 0], .bool false]) (by simp [results, Try.results20, go_sem, *]) rfl ⟨rfl, by
              (repeat' (first | (with_reducible exact hfr) | (with_reducible refine Fr0.setCell ?_ _ _ ?_) | (with_reducible refine Fr0.alloc ?_ _) | (with_reducible refine Fr0.drew ?_))) <;> (first | (rw [← HA.out]; dsimp only; omega) | (rw [← HA.out]; exact Nat.le_refl _))⟩

end Go.Proofs.Ytbokcmkbnkncoaa

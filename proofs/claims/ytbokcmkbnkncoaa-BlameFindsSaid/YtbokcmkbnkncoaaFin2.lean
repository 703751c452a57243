/- The walk of BlameFinds. -/
import Derived.Test.YtbokcmkbnkncoaaFin1
set_option linter.unusedSimpArgs false
set_option linter.unusedVariables false
namespace Go.Proofs.Ytbokcmkbnkncoaa
open Go.RowKit

theorem set4 {w : World} {b : Nat} {t : TypeId} {f : Nat × Nat} {a0 a1 a2 a3 v0 v1 v2 v3 : Value} (h : w.heap[b]? = some (.cells #[a0, a1, a2, a3] t f)) :
    ((((w.setCell ⟨b, 0, none⟩ v0).setCell ⟨b, 1, none⟩ v1).setCell ⟨b, 2, none⟩ v2).setCell ⟨b, 3, none⟩ v3).heap[b]? = some (.cells #[v0, v1, v2, v3] t f) :=
  setCell_block (setCell_block (setCell_block (setCell_block h 0 v0) 1 v1) 2 v2) 3 v3

theorem set4_alloc {w : World} {b : Nat} {t : TypeId} {f : Nat × Nat} {a0 a1 a2 a3 v0 v1 v2 v3 : Value} (h : w.heap[b]? = some (.cells #[a0, a1, a2, a3] t f)) (o : Obj) :
    (((((w.setCell ⟨b, 0, none⟩ v0).setCell ⟨b, 1, none⟩ v1).setCell ⟨b, 2, none⟩ v2).setCell ⟨b, 3, none⟩ v3).alloc o).heap[b]? = some (.cells #[v0, v1, v2, v3] t f) := by
  have h4 : ((((w.setCell ⟨b, 0, none⟩ v0).setCell ⟨b, 1, none⟩ v1).setCell ⟨b, 2, none⟩ v2).setCell ⟨b, 3, none⟩ v3).heap[b]? = some (.cells #[v0, v1, v2, v3] t f) := set4 h
  exact (alloc_lt _ _ _ (lt_of_block h4)).trans h4

theorem find_snoc (at_ : Int) (rs : List Rw) (k : Nat) (h : k < rs.length) : (rs.take (k + 1)).find? (hitB at_) = ((rs.take k).find? (hitB at_)).or (if hitB at_ rs[k] then some rs[k] else none) := by
  rw [List.take_succ_eq_append_getElem h, List.find?_append, List.find?_cons]
  cases hitB at_ rs[k] <;> simp

theorem atR_step_is {at_ : Int} {rs : List Rw} {k : Nat} (h : k < rs.length) (h1 : (atR at_ (rs.take k)).2 = true) : atR at_ (rs.take (k + 1)) = atR at_ (rs.take k) := by
  have hs := find_snoc at_ rs k h
  unfold atR at *
  rw [hs]
  cases hf : (rs.take k).find? (hitB at_) with
  | none => rw [hf] at h1; cases h1
  | some r => rfl

theorem atR_step_not {at_ : Int} {rs : List Rw} {k : Nat} (h : k < rs.length) (h1 : (atR at_ (rs.take k)).2 = false) : atR at_ (rs.take (k + 1)) = if hitB at_ rs[k] then (rs[k], true) else (⟨0, 0, 0, 0⟩, false) := by
  have hs := find_snoc at_ rs k h
  unfold atR at *
  rw [hs]
  cases hf : (rs.take k).find? (hitB at_) with
  | some r => rw [hf] at h1; cases h1
  | none => cases hitB at_ rs[k] <;> rfl

theorem atR_not {at_ : Int} {rs : List Rw} (h1 : (atR at_ rs).2 = false) : atR at_ rs = (⟨0, 0, 0, 0⟩, false) := by
  unfold atR at *
  cases hf : rs.find? (hitB at_) with
  | some r => rw [hf] at h1; cases h1
  | none => rfl

set_option maxRecDepth 100000 in
set_option maxHeartbeats 1000000 in
theorem finds_walk {w : World} (a : Option Addr) (cap : Nat) (rs : List Rw) (at_ v : Int) (hR : RowsAt w a rs) (hl : rs.length ≤ 9223372036854775807) (hat : i64r at_) (hrng : ∀ r ∈ rs, i64r r.fr ∧ i64r r.n) :
    Calls Try.prog 5 #[.slice a rs.length cap, .int .i64 at_, .int .i64 v] w fun e w' => e = .returned (.bool true) ∧ Fr0 w w' := by
  have CB := Lib.hid (law_begun w)
  have HR := Lib.hid hR
  have HAT := Lib.hid hat
  have HRNG := Lib.hid hrng
  clear hR hat hrng
  go_enter Try.func5, Try.ntmps5
  go_wp2_with fail
  refine CB.out.mono ?_
  rintro e w1 ⟨q, p, mb, ids, pw, L, rfl, hG⟩
  have hf1 := hG.frame
  have hs1 := hf1.size'
  clear hG CB
  go_wp2_with fail
  generalize hA : w1.heap.size = A at *
  have HA := Lib.hid hA
  clear hA
  go_loopw [10, 11, 25] (fun s n i wr => ∃ k : Nat, k ≤ rs.length ∧ i = .int .i64 k ∧ s = .bool (atR at_ (rs.take k)).2 ∧ n = .int .i64 (share v (rs.take k)) ∧ Fr0 w wr ∧ wr.heap[A]? = some (.cells #[.int .i64 (atR at_ (rs.take k)).1.fr, .int .i64 (atR at_ (rs.take k)).1.n, .int .i64 (atR at_ (rs.take k)).1.ver, .int .i64 (atR at_ (rs.take k)).1.org] 51 (0, 0))) (fun _ _ i _ => rs.length - (intOf i).toNat)
  case atStart => exact ⟨0, Nat.zero_le _, rfl, rfl, rfl, hf1.alloc _, alloc_at _ _ _ HA.out.symm⟩
  case round =>
    obtain ⟨k, hk, rfl, rfl, rfl, hfr, hz⟩ := hrel
    by_cases hlt : k < rs.length
    · obtain ⟨b, off, hab, lb, d0, d1, d2, d3⟩ := (HR.out.kept0 hfr) k hlt
      obtain ⟨r1, r2⟩ := HRNG.out rs[k] (List.getElem_mem _)
      have SH := Lib.hid (share_snoc v rs k hlt)
      subst hab
      cases hB : (atR at_ (rs.take k)).2 with
      | true =>
        have ST := Lib.hid (atR_step_is hlt hB)
        generalize atR at_ (rs.take k) = R at *
        generalize share v (rs.take k) = s0 at *
        generalize rs[k] = r at *
        have HZ := Lib.hid hz
        have HBB := Lib.hid hB
        have lz := lt_of_block hz
        clear hz r1 r2 hB
        have nz : ¬ wr.heap.size = A := by omega
        have nz2 : ¬ A = wr.heap.size := by omega
        by_cases hv : r.ver = v
        · have HV := Lib.hid (SH.out.trans (if_pos hv))
          have hvb : (r.ver == v) = true := by simpa using hv
          clear hv SH
          go_wp2_with fail
          go_roundw
          case rel => exact ⟨k + 1, by omega, by go_num, by rw [ST.out, HBB.out], by rw [HV.out], hfr.alloc _, by rw [ST.out]; exact (alloc_lt _ _ _ lz).trans HZ.out⟩
          case measure => simp [intOf]; omega
        · have HV := Lib.hid (SH.out.trans (if_neg hv))
          have hvb : (r.ver == v) = false := by simpa using hv
          clear hv SH
          go_wp2_with fail
          go_roundw
          case rel => exact ⟨k + 1, by omega, by go_num, by rw [ST.out, HBB.out], by rw [HV.out], hfr.alloc _, by rw [ST.out]; exact (alloc_lt _ _ _ lz).trans HZ.out⟩
          case measure => simp [intOf]; omega
      | false =>
        have S0 := atR_step_not hlt hB
        rw [atR_not hB] at hz
        obtain ⟨z0, z1, z2, z3, fz, lz⟩ := cells4 hz
        have S0 := Lib.hid S0
        generalize share v (rs.take k) = s0 at *
        generalize rs[k] = r at *
        have HZ := Lib.hid hz
        clear hz hB
        have nz : ¬ wr.heap.size = A := by omega
        have nz2 : ¬ A = wr.heap.size := by omega
        by_cases h2 : r.fr ≤ at_
        · by_cases h1 : 0 < r.n
          · have u1 := u64_diff HAT.out r1 h2
            have u2 := u64_pos r2 h1
            by_cases h3 : at_ - r.fr < r.n
            · have ST := Lib.hid (S0.out.trans (if_pos (by simp [hitB, h1, h2, h3])))
              clear r1 r2 S0
              by_cases hv : r.ver = v
              · have HV := Lib.hid (SH.out.trans (if_pos hv))
                have hvb : (r.ver == v) = true := by simpa using hv
                clear hv SH
                go_wp2_with fail
                go_roundw
                case rel => exact ⟨k + 1, by omega, by go_num, by rw [ST.out], by rw [HV.out], ((((hfr.setCell _ _ hs1).setCell _ _ hs1).setCell _ _ hs1).setCell _ _ hs1).alloc _, by rw [ST.out]; exact set4_alloc HZ.out _⟩
                case measure => simp [intOf]; omega
              · have HV := Lib.hid (SH.out.trans (if_neg hv))
                have hvb : (r.ver == v) = false := by simpa using hv
                clear hv SH
                go_wp2_with fail
                go_roundw
                case rel => exact ⟨k + 1, by omega, by go_num, by rw [ST.out], by rw [HV.out], ((((hfr.setCell _ _ hs1).setCell _ _ hs1).setCell _ _ hs1).setCell _ _ hs1).alloc _, by rw [ST.out]; exact set4_alloc HZ.out _⟩
                case measure => simp [intOf]; omega
            · have ST := Lib.hid (S0.out.trans (if_neg (by simp [hitB, h1, h2, h3])))
              clear r1 r2 S0
              by_cases hv : r.ver = v
              · have HV := Lib.hid (SH.out.trans (if_pos hv))
                have hvb : (r.ver == v) = true := by simpa using hv
                clear hv SH
                go_wp2_with fail
                go_roundw
                case rel => exact ⟨k + 1, by omega, by go_num, by rw [ST.out], by rw [HV.out], hfr.alloc _, by rw [ST.out]; exact (alloc_lt _ _ _ lz).trans HZ.out⟩
                case measure => simp [intOf]; omega
              · have HV := Lib.hid (SH.out.trans (if_neg hv))
                have hvb : (r.ver == v) = false := by simpa using hv
                clear hv SH
                go_wp2_with fail
                go_roundw
                case rel => exact ⟨k + 1, by omega, by go_num, by rw [ST.out], by rw [HV.out], hfr.alloc _, by rw [ST.out]; exact (alloc_lt _ _ _ lz).trans HZ.out⟩
                case measure => simp [intOf]; omega
          · have ST := Lib.hid (S0.out.trans (if_neg (by simp [hitB, h1, h2])))
            have hd1 : decide (0 < r.n) = false := decide_eq_false h1
            clear r1 r2 S0
            by_cases hv : r.ver = v
            · have HV := Lib.hid (SH.out.trans (if_pos hv))
              have hvb : (r.ver == v) = true := by simpa using hv
              clear hv SH
              go_wp2_with fail
              go_roundw
              case rel => exact ⟨k + 1, by omega, by go_num, by rw [ST.out], by rw [HV.out], hfr.alloc _, by rw [ST.out]; exact (alloc_lt _ _ _ lz).trans HZ.out⟩
              case measure => simp [intOf]; omega
            · have HV := Lib.hid (SH.out.trans (if_neg hv))
              have hvb : (r.ver == v) = false := by simpa using hv
              clear hv SH
              go_wp2_with fail
              go_roundw
              case rel => exact ⟨k + 1, by omega, by go_num, by rw [ST.out], by rw [HV.out], hfr.alloc _, by rw [ST.out]; exact (alloc_lt _ _ _ lz).trans HZ.out⟩
              case measure => simp [intOf]; omega
        · have ST := Lib.hid (S0.out.trans (if_neg (by simp [hitB, h2])))
          have hd2 : decide (r.fr ≤ at_) = false := decide_eq_false h2
          clear r1 r2 S0
          by_cases hv : r.ver = v
          · have HV := Lib.hid (SH.out.trans (if_pos hv))
            have hvb : (r.ver == v) = true := by simpa using hv
            clear hv SH
            go_wp2_with fail
            go_roundw
            case rel => exact ⟨k + 1, by omega, by go_num, by rw [ST.out], by rw [HV.out], hfr.alloc _, by rw [ST.out]; exact (alloc_lt _ _ _ lz).trans HZ.out⟩
            case measure => simp [intOf]; omega
          · have HV := Lib.hid (SH.out.trans (if_neg hv))
            have hvb : (r.ver == v) = false := by simpa using hv
            clear hv SH
            go_wp2_with fail
            go_roundw
            case rel => exact ⟨k + 1, by omega, by go_num, by rw [ST.out], by rw [HV.out], hfr.alloc _, by rw [ST.out]; exact (alloc_lt _ _ _ lz).trans HZ.out⟩
            case measure => simp [intOf]; omega
    · have hke : k = rs.length := by omega
      have ht : rs.take k = rs := by rw [hke, List.take_length]
      rw [ht] at hz ⊢
      have CA := Lib.hid (bl_At a cap rs at_ (HR.out.kept0 hfr) hl HAT.out HRNG.out)
      have CS := Lib.hid (fun W (hf : Fr0 wr W) => bl_Share a cap rs v (HR.out.kept0 (hfr.trans hf)) hl)
      generalize atR at_ rs = R at *
      generalize share v rs = sm at *
      obtain ⟨R1, R2⟩ := R
      clear hke ht
      go_wp2_with fail
      refine CA.out.mono ?_
      rintro e w2 ⟨rfl, hf2⟩
      have hz2 := hf2.kept hz
      obtain ⟨z0, z1, z2, z3, fz, lz⟩ := cells4 hz2
      have nz2 : ¬ A = w2.heap.size := by omega
      clear hz hz2
      go_wp2_with fail
      refine (CS.out _ (hf2.alloc _)).mono ?_
      rintro e w3 ⟨rfl, hf3⟩
      go_wp2_with fail
      go_ret
      exact ⟨by simp, (hfr.trans (hf2.alloc _)).trans hf3⟩

end Go.Proofs.Ytbokcmkbnkncoaa

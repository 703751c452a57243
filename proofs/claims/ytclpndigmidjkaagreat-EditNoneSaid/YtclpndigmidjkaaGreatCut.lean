/- The walk of split.Cut. -/
import Derived.Test.YtclpndigmidjkaaGreatCon
set_option linter.unusedSimpArgs false
set_option linter.unusedVariables false
namespace Go.Proofs.YtclpndigmidjkaaGreat
open Go.RowKit

/-- The k-th of the bounds of the parts. -/
def bnd (cs : List Int) (T : Int) (k : Nat) : Int := (0 :: (cs ++ [T])).getD k 0

theorem bnd_zero (cs : List Int) (T : Int) : bnd cs T 0 = 0 := rfl
theorem bnd_in (cs : List Int) (T : Int) (k : Nat) (h : k < cs.length) : bnd cs T (k + 1) = cs[k] := by
  unfold bnd
  rw [List.getD_cons_succ, List.getD_eq_getElem?_getD, List.getElem?_append_left h, List.getElem?_eq_getElem h]
  rfl
theorem bnd_last (cs : List Int) (T : Int) : bnd cs T (cs.length + 1) = T := by
  unfold bnd
  rw [List.getD_cons_succ, List.getD_eq_getElem?_getD, List.getElem?_append_right (Nat.le_refl _)]
  simp

/-- The bounds do not decrease. -/
def Incr (cs : List Int) (T : Int) : Prop := ∀ k, k ≤ cs.length → bnd cs T k ≤ bnd cs T (k + 1)

theorem Incr.nn {cs : List Int} {T : Int} (h : Incr cs T) : ∀ k, k ≤ cs.length + 1 → 0 ≤ bnd cs T k
  | 0, _ => Int.le_refl _
  | k + 1, hk => by have := h.nn k (by omega); have := h k (by omega); omega
theorem Incr.up {cs : List Int} {T : Int} (h : Incr cs T) : ∀ (j k : Nat), k + j = cs.length + 1 → bnd cs T k ≤ T
  | 0, k, hk => by
    have : k = cs.length + 1 := by omega
    subst this
    rw [bnd_last]; exact Int.le_refl _
  | j + 1, k, hk => by
    have := h.up j (k + 1) (by omega)
    have := h k (by omega)
    omega

/-- The parts of a text. -/
def pieces (t : List Int) (cs : List Int) : List (List Int) := (List.range (cs.length + 1)).map fun k => cutL t (bnd cs t.length k) (bnd cs t.length (k + 1) - bnd cs t.length k)

theorem pieces_len (t cs : List Int) : (pieces t cs).length = cs.length + 1 := by simp [pieces]
theorem pieces_take (t cs : List Int) (k : Nat) (h : k ≤ cs.length) : (pieces t cs).take (k + 1) = (pieces t cs).take k ++ [cutL t (bnd cs t.length k) (bnd cs t.length (k + 1) - bnd cs t.length k)] := by
  rw [List.take_succ_eq_append_getElem (by rw [pieces_len]; omega)]
  simp [pieces]

/-- What Cut leaves. -/
def CPost (B : Nat) (w : World) (p mb : Nat) (most : Int) (L : List Ent) (ts : List (List Int)) (N : Nat) (e : Ending) (w' : World) : Prop :=
  ∃ L' out v k, e = .returned (.tuple #[v, .nilIface]) ∧ Sto B w' p mb most L' ∧ Kp B mb w w' ∧ Grows L L' k ∧ k ≤ N ∧ w'.ownsRow w.heap.size 39 1 v out.length (out.map fun x => Value.int .i64 x) ∧ AllB L' out ts

/-- The state of Cut's second loop. -/
structure CutR (B : Nat) (w wr : World) (p mb : Nat) (most : Int) (L : List Ent) (ts : List (List Int)) (N : Nat) (v : Value) (L' : List Ent) (out : List Int) : Prop where
  st : Sto B wr p mb most L'
  kp : Kp B mb w wr
  grows : Grows L L' N
  own : wr.ownsRow w.heap.size 39 1 v out.length (out.map fun x => Value.int .i64 x)
  all : AllB L' out ts

set_option maxRecDepth 100000 in
set_option maxHeartbeats 2000000 in
theorem spl_Cut {B : Nat} {w : World} {p mb : Nat} {most : Int} {L : List Ent} {id : Int} {t : List Int} {d : Int} {cs : List Int} {a : Option Addr} {cap : Nat} (hR : Room B w p mb most L ((cs.length + 1) * (11 * d.toNat + 1))) (hb : BalZ L id t d) (hI : IntsAt w a cs)
    (hl : cs.length ≤ 500000) (hs : Incr cs t.length) :
    Calls Tryz.prog 88 #[.pointer (some ⟨p, 0, none⟩), .int .i64 id, .slice a cs.length cap] w (CPost B w p mb most L (pieces t cs) ((cs.length + 1) * (11 * d.toNat + 1))) := by
  obtain ⟨i0, hi0, hz0, hz1, hz2⟩ := info_parts info_id
  have hu : Tryz.prog.underlying 28 = some (.slice 39) := Tryz.underlying28
  have hlen := hb.len hR.dok hR.sok
  have hle := (hR.sok.at id hb.known).1.len1
  have d0 := (hR.sok.at id hb.known).2.1
  rw [hb.depth] at d0
  have hT : (t.length : Int) ≤ 1152921504606846976 := by omega
  have C1 := Lib.hid (split_check hR.st id hb.known hb.even t.length hlen.symm)
  have HR := Lib.hid hR
  have HI := Lib.hid hI
  have HB := Lib.hid hb
  have HS := Lib.hid hs
  have b2 : i0.bytes * (cs.length + 1) ≤ 281474976710656 := by rw [hz2]; omega
  have b3 : cs.length + 1 ≤ maxLen := by unfold maxLen; omega
  clear hR hI hb hs hlen hle
  go_enter Tryz.func88, Tryz.ntmps88
  go_wp2_with fail
  refine C1.out.mono ?_
  rintro e w1 ⟨rfl, f1⟩
  have HF1 := Lib.hid f1
  clear f1 C1
  go_wp2_with fail
  go_loop [10, 30] (fun s i => ∃ k : Nat, k ≤ cs.length ∧ i = .int .i64 k ∧ s = .int .i64 (bnd cs t.length k)) (fun _ i => cs.length - (intOf i).toNat)
  case atStart => exact ⟨0, Nat.zero_le _, rfl, rfl⟩
  case round =>
    obtain ⟨k, hk, rfl, rfl⟩ := hrel
    by_cases hlt : k < cs.length
    · obtain ⟨b, off, rfl, lb, hc⟩ := (HI.out.kept0 HF1.out).cell k hlt
      have q1 := HS.out k (by omega)
      have q2 := HS.out.up (cs.length - k) (k + 1) (by omega)
      have q0 := bnd_in cs t.length k hlt
      rw [← q0] at hc
      clear q0 HI HB HR HS b2 b3
      generalize hx : bnd cs t.length k = x at *
      generalize hy : bnd cs t.length (k + 1) = y at *
      have HY := Lib.hid hy
      clear hx hy
      have e1 : decide (y < x) = false := decide_eq_false (by omega)
      have e2 : decide ((t.length : Int) < y) = false := decide_eq_false (by omega)
      generalize (t.length : Int) = T at *
      go_wp2_with fail
      go_round
      case rel => exact ⟨k + 1, by omega, by go_num, by rw [HY.out]⟩
      case measure => simp [intOf]; omega
    · clear hk
      generalize bnd cs t.length k = x at *
      go_wp2_with (at_make; refine wpList_make_own _ rfl _ _ _ rfl w.heap.size 39 i0 _ 1 hu hi0 hz0 hz1 .i64 .i64 _ (cs.length + 1) rfl rfl (by simp) b2 b3 HF1.out.size ?_; intro w2 hown hgrow)
      have hO : CutR B w w2 p mb most L ((pieces t cs).take 0) (0 * (11 * d.toNat + 1)) (.slice (some ⟨w1.heap.size, 0, none⟩) 0 (cs.length + 1)) L [] := by
        have f2 : Fr0 w w2 := Fr.grown HF1.out hgrow (fun k hk => by cases hk)
        exact ⟨HR.out.st.kept0 f2, Kp.of0 f2, (Grows.refl HR.out.sok HR.out.dok).le (by omega), hown, trivial⟩
      have HO := Lib.hid hO
      clear hown hgrow hO b2 b3 hz0 hz1 hz2 hi0 hu HF1
      go_loopw [13, 14, 15] (fun v f i wr => ∃ (k : Nat) (L' : List Ent) (out : List Int), k ≤ cs.length + 1 ∧ i = .int .i64 k ∧ f = .int .i64 (bnd cs t.length k) ∧ out.length = k ∧ CutR B w wr p mb most L ((pieces t cs).take k) (k * (11 * d.toNat + 1)) v L' out) (fun _ _ i _ => cs.length + 1 - (intOf i).toNat)
      case atStart => exact ⟨0, L, [], by omega, rfl, rfl, rfl, HO.out⟩
      case round =>
        obtain ⟨k, L', out, hk, rfl, rfl, hol, hr⟩ := hrel
        clear HO
        by_cases hlt : k ≤ cs.length
        · have q1 := HS.out k hlt
          have q2 := HS.out.up (cs.length - k) (k + 1) (by omega)
          have q3 := HS.out.nn k (by omega)
          have q4 : (k + 1) * (11 * d.toNat + 1) ≤ (cs.length + 1) * (11 * d.toNat + 1) := Nat.mul_le_mul_right _ (by omega)
          have q5 : (k + 1) * (11 * d.toNat + 1) = k * (11 * d.toNat + 1) + (11 * d.toNat + 1) := by rw [Nat.add_mul, Nat.one_mul]
          have hb' := hr.grows.balz HR.out.dok HB.out
          have CX := Lib.hid (spl_section (HR.out.next (k := 11 * d.toNat + 1) hr.st hr.kp hr.grows (by omega)) hb' q3 (show 0 ≤ bnd cs t.length (k + 1) - bnd cs t.length k by omega) (by omega))
          have HX := Lib.hid (pieces_take t cs k hlt)
          have HIr := Lib.hid (HI.out.keptK hr.kp)
          have Q5 := Lib.hid q5
          have HR' := Lib.hid hr
          have HOL := Lib.hid hol
          have hol2 : out.length ≤ 500001 := by omega
          clear hb' hr hol HB HR HI HS q4 q5
          by_cases hlt2 : k < cs.length
          · obtain ⟨b, off, rfl, lb, hc⟩ := HIr.out.cell k hlt2
            have q0 := bnd_in cs t.length k hlt2
            rw [← q0] at hc
            clear q0 HIr
            generalize cutL t (bnd cs t.length k) (bnd cs t.length (k + 1) - bnd cs t.length k) = u at *
            generalize hx : bnd cs t.length k = x at *
            generalize hy : bnd cs t.length (k + 1) = y at *
            have HY := Lib.hid hy
            clear hx hy
            generalize (t.length : Int) = T at *
            go_wp2_with fail
            refine CX.out.mono ?_
            rintro e w3 ⟨L2, z, dz, kz, rfl, hS2, hK2, g2, bz, hz1, hz2, hz3⟩
            have ho3 := hK2.owns HR'.out.own (by decide) (by decide)
            have hall := (HR'.out.all.more g2 HR'.out.grows.dok).snoc bz
            have hN : ∀ v' w', w'.ownsRow w.heap.size 39 1 v' (out ++ [z]).length ((out ++ [z]).map fun x => Value.int .i64 x) → (w3.alloc (.cells #[.int .i64 z] 39 (0, 0))).grownBy w' u13.ownBlock → CutR B w w' p mb most L ((pieces t cs).take (k + 1)) ((k + 1) * (11 * d.toNat + 1)) v' L2 (out ++ [z]) :=
              fun v' w' h1 h2 => ⟨hS2.push ho3 (by decide) (by decide) h2, ((HR'.out.kp.trans hK2).alloc _).grown h2 (fun j hj => (HR'.out.own.lt j hj).1), HR'.out.grows.trans g2 (by have := Q5.out; omega), h1, by rw [HX.out]; exact hall⟩
            have HN := Lib.hid hN
            have hbs : w.heap.size ≤ w3.heap.size := (HR'.out.kp.trans hK2).size
            clear hN hS2 hK2 g2 bz hz1 hz2 hz3 hall CX
            go_wp2_with (at_builtin; refine wpList_pushR rt_id rfl _ _ rfl w.heap.size _ _ rfl ho3 hbs 39 z 1 _ rfl rfl (by omega) ?_; intro v' w4 hO4 hg4 hat4)
            go_roundw
            case rel => exact ⟨k + 1, L2, out ++ [z], by omega, by go_num, by rw [HY.out], by have := HOL.out; simp; omega, HN.out _ _ hO4 hg4⟩
            case measure => simp [intOf]; omega
          · have hkz : k = cs.length := by omega
            have q0 := bnd_last cs t.length
            rw [← hkz] at q0
            have hge : decide (k < cs.length) = false := decide_eq_false hlt2
            have hge2 : decide ((k : Int) < (cs.length : Int)) = false := decide_eq_false (by omega)
            clear HIr hkz
            generalize cutL t (bnd cs t.length k) (bnd cs t.length (k + 1) - bnd cs t.length k) = u at *
            generalize hx : bnd cs t.length k = x at *
            rw [q0] at CX q1 q2
            have HY := Lib.hid q0
            clear hx q0
            generalize (t.length : Int) = T at *
            go_wp2_with fail
            refine CX.out.mono ?_
            rintro e w3 ⟨L2, z, dz, kz, rfl, hS2, hK2, g2, bz, hz1, hz2, hz3⟩
            have ho3 := hK2.owns HR'.out.own (by decide) (by decide)
            have hall := (HR'.out.all.more g2 HR'.out.grows.dok).snoc bz
            have hN : ∀ v' w', w'.ownsRow w.heap.size 39 1 v' (out ++ [z]).length ((out ++ [z]).map fun x => Value.int .i64 x) → (w3.alloc (.cells #[.int .i64 z] 39 (0, 0))).grownBy w' u13.ownBlock → CutR B w w' p mb most L ((pieces t cs).take (k + 1)) ((k + 1) * (11 * d.toNat + 1)) v' L2 (out ++ [z]) :=
              fun v' w' h1 h2 => ⟨hS2.push ho3 (by decide) (by decide) h2, ((HR'.out.kp.trans hK2).alloc _).grown h2 (fun j hj => (HR'.out.own.lt j hj).1), HR'.out.grows.trans g2 (by have := Q5.out; omega), h1, by rw [HX.out]; exact hall⟩
            have HN := Lib.hid hN
            have hbs : w.heap.size ≤ w3.heap.size := (HR'.out.kp.trans hK2).size
            clear hN hS2 hK2 g2 bz hz1 hz2 hz3 hall CX
            go_wp2_with (at_builtin; refine wpList_pushR rt_id rfl _ _ rfl w.heap.size _ _ rfl ho3 hbs 39 z 1 _ rfl rfl (by omega) ?_; intro v' w4 hO4 hg4 hat4)
            go_roundw
            case rel => exact ⟨k + 1, L2, out ++ [z], by omega, by go_num, by rw [HY.out], by have := HOL.out; simp; omega, HN.out _ _ hO4 hg4⟩
            case measure => simp [intOf]; omega
        · have hkz : k = cs.length + 1 := by omega
          have hge : decide ((k : Int) ≤ (cs.length : Int)) = false := decide_eq_false (by omega)
          have hge2 : decide (k ≤ cs.length) = false := decide_eq_false hlt
          have HX : Hid (CPost B w p mb most L (pieces t cs) ((cs.length + 1) * (11 * d.toNat + 1)) (.returned (.tuple #[u13, .nilIface])) wr) := by
            refine ⟨L', out, u13, _, rfl, hr.st, hr.kp, hr.grows, by rw [hkz]; exact Nat.le_refl _, hr.own, ?_⟩
            have := hr.all
            rw [List.take_of_length_le (by rw [pieces_len]; omega)] at this
            exact this
          clear hr hol HB HR HI HS hkz hk
          generalize bnd cs t.length k = x at *
          go_wp2_with fail
          go_ret2
          exact HX.out

end Go.Proofs.YtclpndigmidjkaaGreat

/- The walks of edit.unknown, balanced, and of Apply for an Insert. -/
import Derived.Test.YtclpndigmidjkaaGreatQd
import Derived.Test.YtclpndigmidjkaaGreatQSpl3
import Derived.Test.YtclpndigmidjkaaGreatQErr
set_option linter.unusedSimpArgs false
set_option linter.unusedVariables false
namespace Go.Proofs.YtclpndigmidjkaaGreat
open Go.RowKit

theorem sto_Len {B : Nat} {w : World} {p mb : Nat} {most : Int} {L : List Ent} (h : Sto B w p mb most L) :
    Calls Tryz.prog 16 #[.pointer (some ⟨p, 0, none⟩)] w fun e w' => e = .returned (.int .i64 L.length) ∧ w = w' := by
  obtain ⟨sv, hS, _⟩ := h; exact st_Len hS

set_option maxRecDepth 100000 in
set_option maxHeartbeats 400000 in
theorem edit_unknown {B : Nat} {w : World} {p mb : Nat} {most : Int} {L : List Ent} (hS : Sto B w p mb most L) (id : Int) (b : Bool) (hb : b = (decide (id < 0) || decide ((L.length : Int) < id))) :
    Calls Tryz.prog 77 #[.pointer (some ⟨p, 0, none⟩), .int .i64 id] w fun e w' => e = .returned (.bool b) ∧ w = w' := by
  have c1 := sto_Len hS
  have C1 := Lib.hid c1
  have HB := Lib.hid hb
  clear c1 hS hb
  by_cases h0 : id < 0
  · go_enter Tryz.func77, Tryz.ntmps77
    go_wp2_with fail
    go_ret
    exact ⟨by rw [HB.out]; simp [h0], rfl⟩
  · have hd : decide (id < 0) = false := by simpa using h0
    go_enter Tryz.func77, Tryz.ntmps77
    go_wp2_with fail
    refine C1.out.mono ?_
    rintro e w1 ⟨rfl, rfl⟩
    go_wp2_with fail
    go_ret
    exact ⟨by rw [HB.out]; simp [hd], rfl⟩

theorem edit_known {B : Nat} {w : World} {p mb : Nat} {most : Int} {L : List Ent} (hS : Sto B w p mb most L) (id : Int) (hk : isKnown L id) :
    Calls Tryz.prog 77 #[.pointer (some ⟨p, 0, none⟩), .int .i64 id] w fun e w' => e = .returned (.bool false) ∧ w = w' := by
  refine edit_unknown hS id false ?_
  obtain ⟨h1, h2⟩ := hk
  rw [decide_eq_false (by omega), decide_eq_false (by omega)]; rfl

set_option maxRecDepth 100000 in
set_option maxHeartbeats 1000000 in
theorem edit_balanced {B : Nat} {w : World} {p mb : Nat} {most : Int} {L : List Ent} (hS : Sto B w p mb most L) {ids : List Int} {a : Option Addr} {cap : Nat} (hI : IntsAt w a ids) (hl : ids.length ≤ 1000000) (hk : ∀ id ∈ ids, isKnown L id ∧ (entAt L id).even = true) :
    Calls Tryz.prog 78 #[.pointer (some ⟨p, 0, none⟩), .slice a ids.length cap] w fun e w' => e = .returned .nilIface ∧ Fr0 w w' := by
  have HS := Lib.hid hS
  have HI := Lib.hid hI
  have HK := Lib.hid hk
  clear hS hI hk
  go_enter Tryz.func78, Tryz.ntmps78
  go_wp2_with fail
  go_loopw [11] (fun i wr => ∃ k : Nat, k ≤ ids.length ∧ i = .int .i64 k ∧ Fr0 w wr) (fun i _ => ids.length - (intOf i).toNat)
  case atStart => exact ⟨0, Nat.zero_le _, rfl, Fr0.refl w⟩
  case round =>
    obtain ⟨k, hk, rfl, hf⟩ := hrel
    by_cases hlt : k < ids.length
    · obtain ⟨b, off, rfl, lb, hc⟩ := (HI.out.kept0 hf).cell k hlt
      obtain ⟨k1, k2⟩ := HK.out ids[k] (List.getElem_mem _)
      have CB := Lib.hid (sto_Balanced (HS.out.kept0 hf) ids[k] k1 true k2)
      clear k1 k2 HI HS HK
      generalize ids[k] = y at *
      go_wp2_with fail
      refine CB.out.mono ?_
      rintro e w2 ⟨rfl, f2⟩
      go_wp2_with fail
      go_roundw
      case rel => exact ⟨k + 1, by omega, by go_num, hf.trans f2⟩
      case measure => simp [intOf]; omega
    · clear HI HS HK
      go_wp2_with fail
      go_ret
      exact ⟨rfl, hf⟩

set_option maxRecDepth 100000 in
set_option maxHeartbeats 400000 in
theorem edit_formed_ins (at_ tx : Int) (w : World) :
    Calls Tryz.prog 72 #[.agg #[.int .i64 1, .int .i64 at_, .int .i64 0, .int .i64 0, .int .i64 tx]] w fun e w' => e = .returned (.bool true) ∧ Fr0 w w' := by
  go_enter Tryz.func72, Tryz.ntmps72
  go_wp2_with fail
  go_ret
  exact ⟨rfl, (Fr0.refl w).alloc _⟩

set_option maxRecDepth 100000 in
set_option maxHeartbeats 400000 in
theorem edit_within_ins (T at_ tx : Int) (w : World) (h0 : 0 ≤ at_) (h1 : at_ ≤ T) (h2 : T ≤ 1152921504606846976) :
    Calls Tryz.prog 73 #[.int .i64 T, .agg #[.int .i64 1, .int .i64 at_, .int .i64 0, .int .i64 0, .int .i64 tx]] w fun e w' => e = .returned (.bool true) ∧ Fr0 w w' := by
  have C1 := Lib.hid (fun w => len_Range_ok at_ 0 T w h0 (by omega) (by omega) h2)
  have e1 : decide ((T : Int) < 0) = false := decide_eq_false (by omega)
  go_enter Tryz.func73, Tryz.ntmps73
  go_wp2_with fail
  refine (C1.out _).mono ?_
  rintro e w' ⟨rfl, rfl⟩
  go_wp2_with fail
  go_ret
  exact ⟨rfl, (Fr0.refl w).alloc _⟩

theorem cells5' {w : World} {b : Nat} {x0 x1 x2 x3 x4 : Value} {t : TypeId} (h : w.heap[b]? = some (.cells #[x0, x1, x2, x3, x4] t (0, 0))) :
    w.cell? ⟨b, 0, none⟩ = some x0 ∧ w.cell? ⟨b, 1, none⟩ = some x1 ∧ w.cell? ⟨b, 2, none⟩ = some x2 ∧ w.cell? ⟨b, 3, none⟩ = some x3 ∧ w.cell? ⟨b, 4, none⟩ = some x4 ∧ b < w.heap.size := cells5 h

set_option maxRecDepth 100000 in
set_option maxHeartbeats 1000000 in
theorem edit_Length_ins {B : Nat} {w : World} {p mb : Nat} {most : Int} {L : List Ent} (hS : Sto B w p mb most L) (hO : SOk L) (T at_ tx : Int) (hk : isKnown L tx) (h0 : 0 ≤ at_) (h1 : at_ ≤ T) (h2 : T + (entAt L tx).wt.len ≤ 1152921504606846976) :
    Calls Tryz.prog 37 #[.pointer (some ⟨p, 0, none⟩), .int .i64 T, .agg #[.int .i64 1, .int .i64 at_, .int .i64 0, .int .i64 0, .int .i64 tx]] w fun e w' => e = .returned (.tuple #[.int .i64 (T + (entAt L tx).wt.len), .nilIface]) ∧ Fr0 w w' := by
  have q := (hO.at tx hk).1.len0
  have CW := Lib.hid (fun W (hW : Fr0 w W) => sto_Weight (hS.kept0 hW) tx hk)
  generalize (entAt L tx).wt = x at *
  have CV := Lib.hid (fun w => len_Valid_yes T w (by omega) (by omega))
  have CF := Lib.hid (fun w => edit_formed_ins at_ tx w)
  have CI := Lib.hid (fun w => edit_within_ins T at_ tx w h0 h1 (by omega))
  have CA := Lib.hid (fun w => len_Add_ok T x.len w (by omega) q h2)
  clear hS hO hk
  go_enter Tryz.func37, Tryz.ntmps37
  go_wp2_with fail
  refine (CV.out _).mono ?_
  rintro e w' ⟨rfl, rfl⟩
  go_wp2_with fail
  refine (CW.out _ ((Fr0.refl w).alloc _)).mono ?_
  rintro e w1 ⟨rfl, f1⟩
  have hr1 := ((Fr0.refl w1).alloc (.cells #[.int .i64 x.len, .int .i64 x.lines, .int .i64 x.head, .int .i64 x.tail, .int .u64 x.val, .int .u64 x.scale] 157 (0, 0))).kept (f1.kept (b := w.heap.size) (alloc_at w _ _ rfl))
  have F1 := (((Fr0.refl w).alloc _).trans f1).alloc (.cells #[.int .i64 x.len, .int .i64 x.lines, .int .i64 x.head, .int .i64 x.tail, .int .u64 x.val, .int .u64 x.scale] 157 (0, 0))
  have hx1 := alloc_at w1 (.cells #[.int .i64 x.len, .int .i64 x.lines, .int .i64 x.head, .int .i64 x.tail, .int .u64 x.val, .int .u64 x.scale] 157 (0, 0)) _ rfl
  obtain ⟨r1, r2, r3, r4, r5, lr⟩ := cells5 hr1
  clear f1
  go_wp2_with fail
  refine (CF.out _).mono ?_
  rintro e w2 ⟨rfl, f2⟩
  have hr2 := f2.kept hr1
  have hx2 := f2.kept hx1
  have F2 := F1.trans f2
  clear r1 r2 r3 r4 r5 lr hr1 hx1 f2
  obtain ⟨r1, r2, r3, r4, r5, lr⟩ := cells5 hr2
  go_wp2_with fail
  refine (CI.out _).mono ?_
  rintro e w3 ⟨rfl, f3⟩
  have hr3 := f3.kept hr2
  have hx3 := f3.kept hx2
  have F3 := F2.trans f3
  clear r1 r2 r3 r4 r5 lr hr2 hx2 f3
  obtain ⟨r1, r2, r3, r4, r5, lr⟩ := cells5 hr3
  have cx : w3.cell? ⟨w1.heap.size, 0, none⟩ = some (.int .i64 x.len) := by rw [cell_of_block hx3]; rfl
  clear hr3 hx3
  go_wp2_with fail
  refine (CA.out _).mono ?_
  rintro e w' ⟨rfl, rfl⟩
  go_wp2_with fail
  go_ret2
  exact ⟨rfl, F3⟩

/-- What arrange leaves. -/
def ArPost (B : Nat) (w : World) (p mb : Nat) (most : Int) (L : List Ent) (ts : List (List Int)) (N : Nat) (e : Ending) (w' : World) : Prop :=
  ∃ L' out a cap k, e = .returned (.tuple #[.slice a out.length cap, .nilIface]) ∧ Sto B w' p mb most L' ∧ Kp B mb w w' ∧ Grows L L' k ∧ k ≤ N ∧ IntsAt w' a out ∧ AllB L' out ts

theorem ints3 (w : World) (x y z : Int) : IntsAt (w.alloc (.cells #[.int .i64 x, .int .i64 y, .int .i64 z] 39 (0, 0))) (some ⟨w.heap.size, 0, none⟩) [x, y, z] := by
  intro i hi
  refine ⟨_, _, _, _, _, rfl, alloc_at _ _ _ rfl, by decide, by decide, ?_⟩
  match i, hi with
  | 0, _ => rfl
  | 1, _ => rfl
  | 2, _ => rfl
theorem ints2 (w : World) (x y : Int) : IntsAt (w.alloc (.cells #[.int .i64 x, .int .i64 y] 39 (0, 0))) (some ⟨w.heap.size, 0, none⟩) [x, y] := by
  intro i hi
  refine ⟨_, _, _, _, _, rfl, alloc_at _ _ _ rfl, by decide, by decide, ?_⟩
  match i, hi with
  | 0, _ => rfl
  | 1, _ => rfl

set_option maxRecDepth 100000 in
set_option maxHeartbeats 1000000 in
theorem edit_arrange_ins {B : Nat} {w : World} {p mb : Nat} {most : Int} {L : List Ent} {id tx : Int} {t u : List Int} {d du at_ : Int} (hR : Room B w p mb most L (8 * d.toNat)) (hb : BalZ L id t d) (hx : BalZ L tx u du) (h0 : 0 ≤ at_) (h1 : at_ ≤ t.length) :
    Calls Tryz.prog 79 #[.pointer (some ⟨p, 0, none⟩), .int .i64 id, .agg #[.int .i64 1, .int .i64 at_, .int .i64 0, .int .i64 0, .int .i64 tx]] w (ArPost B w p mb most L [t.take at_.toNat, u, t.drop at_.toNat] (8 * d.toNat)) := by
  have CS := Lib.hid (fun W (hW : Fr0 w W) => spl_Split (hR.kept0 hW) hb h0 h1)
  have d0 := (hR.sok.at id hb.known).2.1
  rw [hb.depth] at d0
  have HD := Lib.hid hR.dok
  have HX := Lib.hid hx
  clear hR hb hx
  go_enter Tryz.func79, Tryz.ntmps79
  go_wp2_with fail
  refine (CS.out _ ((Fr0.refl w).alloc _)).mono ?_
  rintro e w2 ⟨L1, x, y, dx, dy, k, rfl, hS1, hK1, g, bx, by1, hx1, hy1, hk⟩
  have hr2 := hK1.cells _ _ _ _ (alloc_at w _ _ rfl) (by decide) (by decide)
  obtain ⟨r1, r2, r3, r4, r5, lr⟩ := cells5 hr2
  have HP := Lib.hid (show ArPost B w p mb most L [t.take at_.toNat, u, t.drop at_.toNat] (8 * d.toNat) (.returned (.tuple #[.slice (some ⟨w2.heap.size, 0, none⟩) 3 3, .nilIface])) (w2.alloc (.cells #[.int .i64 x, .int .i64 tx, .int .i64 y] 39 (0, 0))) from
    ⟨L1, [x, tx, y], some ⟨w2.heap.size, 0, none⟩, 3, k, rfl, hS1.kept0 ((Fr0.refl w2).alloc _), ((Kp.of0 ((Fr0.refl w).alloc _)).trans hK1).alloc _, g, by omega, ints3 w2 x tx y, ⟨⟨dx, bx⟩, ⟨du, g.balz HD.out HX.out⟩, ⟨dy, by1⟩, trivial⟩⟩)
  clear hS1 hK1 g bx by1 hr2 CS
  go_wp2_with fail
  go_ret2
  exact HP.out

set_option maxRecDepth 100000 in
set_option maxHeartbeats 2000000 in
theorem edit_Apply_ins {B : Nat} {w : World} {p mb : Nat} {most : Int} {L : List Ent} {id tx : Int} {t u : List Int} {d du at_ : Int} (D : Nat) (hR : Room B w p mb most L (8 * d.toNat + 3 * (3 * D + 1))) (hb : BalZ L id t d) (hx : BalZ L tx u du) (h0 : 0 ≤ at_) (h1 : at_ ≤ t.length)
    (hl : (t.length : Int) + u.length ≤ 1152921504606846976) (hD : t.length + u.length < lst (D + 1)) :
    Calls Tryz.prog 43 #[.pointer (some ⟨p, 0, none⟩), .int .i64 id, .agg #[.int .i64 1, .int .i64 at_, .int .i64 0, .int .i64 0, .int .i64 tx]] w (ZPost B w p mb most L [t.take at_.toNat, u, t.drop at_.toNat].flatten (fun d' k => d' ≤ D ∧ k ≤ 8 * d.toNat + 3 * (3 * D + 1))) := by
  have hlen := hb.len hR.dok hR.sok
  have hlen2 := hx.len hR.dok hR.sok
  have CK1 := Lib.hid (fun W (hW : Fr0 w W) => edit_known (hR.st.kept0 hW) id hb.known)
  have CK2 := Lib.hid (fun W (hW : Fr0 w W) => edit_known (hR.st.kept0 hW) tx hx.known)
  have CF := Lib.hid (fun w => edit_formed_ins at_ tx w)
  have CB := Lib.hid (fun W (hW : Fr0 w W) c => edit_balanced (cap := c) ((hR.st.kept0 hW).kept0 ((Fr0.refl W).alloc _)) (ints2 W id tx) (by simp) (by
    intro i hi
    simp only [List.mem_cons, List.not_mem_nil, or_false] at hi
    rcases hi with rfl | rfl
    · exact ⟨hb.known, hb.even⟩
    · exact ⟨hx.known, hx.even⟩))
  have CW := Lib.hid (fun W (hW : Fr0 w W) => sto_Weight (hR.st.kept0 hW) id hb.known)
  have CL := Lib.hid (fun W (hW : Fr0 w W) => edit_Length_ins (hR.st.kept0 hW) hR.sok (entAt L id).wt.len at_ tx hx.known h0 (by omega) (by omega))
  have CA := Lib.hid (fun W (hW : Fr0 w W) => edit_arrange_ins ((hR.kept0 hW).less (by omega)) hb hx h0 h1)
  have HR := Lib.hid hR
  have HTT : Hid (([t.take at_.toNat, u, t.drop at_.toNat].flatten).length = t.length + u.length) := by
    show _ = _
    simp only [List.flatten_cons, List.flatten_nil, List.append_nil, List.length_append, List.length_take, List.length_drop]
    omega
  have HL3 : Hid ([t.take at_.toNat, u, t.drop at_.toNat].length = 3) := rfl
  generalize [t.take at_.toNat, u, t.drop at_.toNat] = ts at *
  have HL := Lib.hid hl
  have HD := Lib.hid hD
  clear hR hb hx hlen hlen2 hl hD h1
  generalize (entAt L id).wt = x at *
  generalize x.len + (entAt L tx).wt.len = N at *
  go_enter Tryz.func43, Tryz.ntmps43
  go_wp2_with fail
  refine (CK1.out _ ((Fr0.refl w).alloc _)).mono ?_
  rintro e w' ⟨rfl, rfl⟩
  go_wp2_with fail
  refine (CK2.out _ ((Fr0.refl w).alloc _)).mono ?_
  rintro e w' ⟨rfl, rfl⟩
  go_wp2_with fail
  refine (CF.out _).mono ?_
  rintro e w2 ⟨rfl, f2⟩
  have hr2 := f2.kept (b := w.heap.size) (alloc_at w _ _ rfl)
  have F2 := ((Fr0.refl w).alloc _).trans f2
  obtain ⟨r1, r2, r3, r4, r5, lr⟩ := cells5 hr2
  clear f2
  go_wp2_with fail
  refine (CB.out _ F2 _).mono ?_
  rintro e w3 ⟨rfl, f3⟩
  have hr3 := f3.kept (((Fr0.refl w2).alloc _).kept hr2)
  have F3 := (F2.alloc _).trans f3
  clear r1 r2 r3 r4 r5 lr hr2 f3
  obtain ⟨r1, r2, r3, r4, r5, lr⟩ := cells5 hr3
  go_wp2_with fail
  refine (CW.out _ F3).mono ?_
  rintro e w4 ⟨rfl, f4⟩
  have hr4 := ((Fr0.refl w4).alloc (.cells #[.int .i64 x.len, .int .i64 x.lines, .int .i64 x.head, .int .i64 x.tail, .int .u64 x.val, .int .u64 x.scale] 157 (0, 0))).kept (f4.kept hr3)
  have F4 := (F3.trans f4).alloc (.cells #[.int .i64 x.len, .int .i64 x.lines, .int .i64 x.head, .int .i64 x.tail, .int .u64 x.val, .int .u64 x.scale] 157 (0, 0))
  clear r1 r2 r3 r4 r5 lr hr3 f4
  obtain ⟨r1, r2, r3, r4, r5, lr⟩ := cells5 hr4
  go_wp2_with fail
  refine (CL.out _ F4).mono ?_
  rintro e w5 ⟨rfl, f5⟩
  have hr5 := f5.kept hr4
  have F5 := F4.trans f5
  clear r1 r2 r3 r4 r5 lr hr4 f5
  obtain ⟨r1, r2, r3, r4, r5, lr⟩ := cells5 hr5
  clear hr5
  go_wp2_with fail
  refine (CA.out _ F5).mono ?_
  rintro e w6 ⟨L1, out, oa, ocap, k, rfl, hS1, hK1, g, hk, hI, hA⟩
  have HO3 := Lib.hid (hA.len.trans HL3.out)
  have CC := Lib.hid (bal_Concat (cap := ocap) D ((HR.out.kept0 F5).next (k := out.length * (3 * D + 1)) hS1 hK1 g (by rw [HO3.out]; omega)) hI hA (by rw [HO3.out]; omega) (by rw [HTT.out]; have := HL.out; omega) (by rw [HTT.out]; exact HD.out))
  have HK := Lib.hid ((Kp.of0 F5).trans hK1)
  have HG := Lib.hid g
  clear hS1 hK1 g hI hA CA r1 r2 r3 r4 r5 lr
  go_wp2_with fail
  refine CC.out.mono ?_
  rintro e w7 hx
  obtain ⟨z, rfl⟩ := hx.ret
  have HX := Lib.hid (ZPost.next (E := fun d' k => d' ≤ D ∧ k ≤ 8 * d.toNat + 3 * (3 * D + 1)) HK.out HG.out hx (fun e k h => ⟨h.1, by have h2 := h.2; rw [HO3.out] at h2; omega⟩))
  clear hx CC
  go_wp2_with fail
  go_ret2
  exact HX.out

end Go.Proofs.YtclpndigmidjkaaGreat

/- The walks of prefix: check, within, CommonAt, CommonBefore (at known signatures). -/
import Derived.Test.YtodmpcnpedpheaaGreatDoorRPx4
import Derived.Test.YtodmpcnpedpheaaGreatDoorRBase
set_option linter.unusedSimpArgs false
set_option linter.unusedVariables false
namespace Go.Proofs.YtodmpcnpedpheaaGreatDoor
open Go.RowKit

/-- The ID of a signature. -/
structure SigOk (L : List Ent) (id : Int) : Prop where
  kn : isKnown L id
  lv : id = 0 ∨ 0 ≤ klev L id

theorem SigOk.top {L : List Ent} {id : Int} (h : SigOk L id) : ∃ x : Int, topV L id = .tuple #[.int .i64 x, .nilIface] := by
  unfold topV
  split
  · exact ⟨0, rfl⟩
  · rename_i h0
    rcases h.lv with e | e
    · exact absurd e h0
    · rw [if_pos e]; exact ⟨_, rfl⟩

theorem SigOk.grp {L : List Ent} (hD : DOk L) {id : Int} (h : SigOk L id) (h1 : 1 ≤ (txt L id).length) : GOk L (id, 1) := by
  have h0 : id ≠ 0 := fun e => by
    rw [e, txt_zero] at h1
    simp at h1
  rcases h.lv with e | e
  · exact absurd e h0
  · exact ⟨h.kn, h0, e, by show (1 : Int) ≤ 1; omega⟩

theorem KyPost.trans {B : Nat} {w w1 w2 : World} {pp tp p mb : Nat} {most : Int} {L : List Ent} {v : Value} {e : Ending} (hk : Kx B mb w w1) (h : KyPost B w1 pp tp p mb most L v e w2) : KyPost B w pp tp p mb most L v e w2 := by
  obtain ⟨T, h1, h2, h3⟩ := h
  exact ⟨T, h1, h2, Ks.trans hk h3⟩

theorem ix2 {a b : Int} (W : World) : (Sem.run Tryz.prog (Instr.index 225 (.agg #[.int .i64 a, .int .i64 b]) (.int .i64 0)) W = .ok (.int .i64 a) W) ∧ (Sem.run Tryz.prog (Instr.index 225 (.agg #[.int .i64 a, .int .i64 b]) (.int .i64 1)) W = .ok (.int .i64 b) W) := by
  have h : Tryz.prog.underlying 225 = some (.array 2 38) := by kernel_rfl
  constructor
  · simp [Instr.index, run_underlying h, asIntOf, go_sem]
  · simp [Instr.index, run_underlying h, asIntOf, go_sem]

set_option maxRecDepth 100000 in
set_option maxHeartbeats 4000000 in
theorem px_check {B : Nat} {w : World} {pp tp p mb : Nat} {most : Int} {L : List Ent} {T : List KRow} (hp : Pq B w pp tp p mb most L T) {a b : Int} (ha : SigOk L a) (hb : SigOk L b) :
    Calls Tryz.prog 99 #[.pointer (some ⟨pp, 0, none⟩), .int .i64 a, .int .i64 b] w (KyPost B w pp tp p mb most L .nilIface) := by
  have CS := Lib.hid (sig_Store hp)
  have CL := Lib.hid (sto_LenQ hp.st)
  obtain ⟨xa, ea⟩ := ha.top
  obtain ⟨xb, eb⟩ := hb.top
  have CA := Lib.hid (fun (W : World) (hW : ∃ T', Pq B W pp tp p mb most L T') => by
    obtain ⟨T', hW⟩ := hW
    have := sig_Top hW a ha.kn
    rw [ea] at this
    exact this)
  have CB := Lib.hid (fun (W : World) (hW : ∃ T', Pq B W pp tp p mb most L T') => by
    obtain ⟨T', hW⟩ := hW
    have := sig_Top hW b hb.kn
    rw [eb] at this
    exact this)
  have HP := Lib.hid hp
  have a1 := ha.kn.1
  have a2 := ha.kn.2
  have b1 := hb.kn.1
  have b2 := hb.kn.2
  have q1 : decide (a < 0) = false := decide_eq_false (by omega)
  have q2 : decide ((L.length : Int) < a) = false := decide_eq_false (by omega)
  have q3 : decide (b < 0) = false := decide_eq_false (by omega)
  have q4 : decide ((L.length : Int) < b) = false := decide_eq_false (by omega)
  have I0 := fun W => (ix2 (a := a) (b := b) W).1
  have I1 := fun W => (ix2 (a := a) (b := b) W).2
  clear hp ha hb ea eb a1 a2 b1 b2
  go_enter Tryz.func99, Tryz.ntmps99
  go_wp2_with fail
  refine CS.out.mono ?_
  rintro e w1 ⟨rfl, rfl⟩
  go_wp2_with fail
  go_loopg [20] 2 (fun gk v wr => ((v = .int .i64 0 ∧ gk = 2) ∨ (v = .int .i64 1 ∧ gk = 1) ∨ (v = .int .i64 2 ∧ gk = 0)) ∧ w = wr)
  case atStart => exact ⟨.inl ⟨rfl, rfl⟩, rfl⟩
  case round =>
    obtain ⟨hv, hwr⟩ := hrel
    subst hwr
    rcases hv with ⟨rfl, rfl⟩ | ⟨rfl, rfl⟩ | ⟨rfl, rfl⟩
    · go_wp2_with fail
      refine CS.out.mono ?_
      rintro e w1 ⟨rfl, rfl⟩
      go_wp2_with fail
      refine CL.out.mono ?_
      rintro e w1 ⟨rfl, rfl⟩
      go_wp2_with fail
      go_roundg 1
      case measure => omega
      case rel => exact ⟨.inr (.inl ⟨rfl, rfl⟩), rfl⟩
    · go_wp2_with fail
      refine CS.out.mono ?_
      rintro e w1 ⟨rfl, rfl⟩
      go_wp2_with fail
      refine CL.out.mono ?_
      rintro e w1 ⟨rfl, rfl⟩
      go_wp2_with fail
      go_roundg 0
      case measure => omega
      case rel => exact ⟨.inr (.inr ⟨rfl, rfl⟩), rfl⟩
    · go_wp2_with fail
      go_loopg [37] 2 (fun gk v wr => ((v = .int .i64 0 ∧ gk = 2) ∨ (v = .int .i64 1 ∧ gk = 1) ∨ (v = .int .i64 2 ∧ gk = 0)) ∧ (∃ T', Pq B wr pp tp p mb most L T') ∧ Kx B mb w wr)
      case atStart => exact ⟨.inl ⟨rfl, rfl⟩, ⟨T, HP.out⟩, Ks.refl _ _ _ _⟩
      case round =>
        obtain ⟨hv, hq, hx⟩ := hrel
        have HX := Lib.hid hx
        rcases hv with ⟨rfl, rfl⟩ | ⟨rfl, rfl⟩ | ⟨rfl, rfl⟩
        · have C := Lib.hid (CA.out _ hq)
          clear hq hx
          go_wp2_with fail
          refine C.out.mono ?_
          rintro e w2 ⟨T2, rfl, hp2, hx2⟩
          have HP2 := Lib.hid hp2
          have HX2 := Lib.hid (Ks.trans HX.out hx2)
          clear hp2 hx2
          go_wp2_with fail
          go_roundg 1
          case measure => omega
          case rel => exact ⟨.inr (.inl ⟨rfl, rfl⟩), ⟨T2, HP2.out⟩, HX2.out⟩
        · have C := Lib.hid (CB.out _ hq)
          clear hq hx
          go_wp2_with fail
          refine C.out.mono ?_
          rintro e w2 ⟨T2, rfl, hp2, hx2⟩
          have HP2 := Lib.hid hp2
          have HX2 := Lib.hid (Ks.trans HX.out hx2)
          clear hp2 hx2
          go_wp2_with fail
          go_roundg 0
          case measure => omega
          case rel => exact ⟨.inr (.inr ⟨rfl, rfl⟩), ⟨T2, HP2.out⟩, HX2.out⟩
        · obtain ⟨T2, hq⟩ := hq
          have HQ := Lib.hid hq
          clear hq hx
          go_wp2_with fail
          go_ret
          exact ⟨T2, rfl, HQ.out, HX.out⟩

set_option maxRecDepth 100000 in
set_option maxHeartbeats 4000000 in
theorem px_within {B : Nat} {w : World} {pp tp p mb : Nat} {most : Int} {L : List Ent} {T : List KRow} (hp : Pq B w pp tp p mb most L T) {a b : Int} (ha : SigOk L a) (hb : SigOk L b) (i j : Int) (hi : 0 ≤ i) (hi2 : i ≤ (txt L a).length) (hj : 0 ≤ j) (hj2 : j ≤ (txt L b).length) :
    Calls Tryz.prog 81 #[.pointer (some ⟨pp, 0, none⟩), .int .i64 a, .int .i64 i, .int .i64 b, .int .i64 j] w (KyPost B w pp tp p mb most L .nilIface) := by
  have C := Lib.hid (px_check hp ha hb)
  have CA := Lib.hid (fun (W : World) T' (hW : Pq B W pp tp p mb most L T') => px_size hW a ha.kn)
  have CB := Lib.hid (fun (W : World) T' (hW : Pq B W pp tp p mb most L T') => px_size hW b hb.kn)
  have q1 : decide (i < 0) = false := decide_eq_false (by omega)
  have q2 : decide (((txt L a).length : Int) < i) = false := decide_eq_false (by omega)
  have q3 : decide (j < 0) = false := decide_eq_false (by omega)
  have q4 : decide (((txt L b).length : Int) < j) = false := decide_eq_false (by omega)
  clear hp ha hb
  go_enter Tryz.func81, Tryz.ntmps81
  go_wp2_with fail
  refine C.out.mono ?_
  rintro e w1 ⟨T1, rfl, hp1, hx1⟩
  have HP1 := Lib.hid hp1
  have HX1 := Lib.hid hx1
  have CA1 := Lib.hid (CA.out _ _ hp1)
  clear hp1 hx1 C
  go_wp2_with fail
  refine CA1.out.mono ?_
  rintro e w2 ⟨rfl, hf2⟩
  have CB1 := Lib.hid (CB.out _ _ (HP1.out.kept0 hf2))
  have HF2 := Lib.hid hf2
  clear hf2
  go_wp2_with fail
  refine CB1.out.mono ?_
  rintro e w3 ⟨rfl, hf3⟩
  have HF3 := Lib.hid (Fr0.trans HF2.out hf3)
  clear hf3
  go_wp2_with fail
  go_ret
  exact ⟨T1, rfl, HP1.out.kept0 HF3.out, Ks.trans HX1.out (Ks.of0 HF3.out)⟩

theorem owns_dn {w : World} {b c : Nat} {e : TypeId} {size n : Nat} {v : Value} {xs : List Value} (h : w.ownsRow c e size v n xs) (hb : b ≤ c) : w.ownsRow b e size v n xs := by
  refine ⟨h.1, ?_⟩
  rcases h.2 with h5 | ⟨g, cap, cur, h5, hg, r⟩
  · exact .inl h5
  · exact .inr ⟨g, cap, cur, h5, Nat.le_trans hb hg, r⟩

theorem mes_le (L : List Ent) (back : Bool) (tx ty : List (Int × Int)) : mesG L back tx ty ≤ 2 * (restG L back tx).length + (restG L back ty).length := by
  have h1 := potG_le L back tx
  have h2 := potG_le L back ty
  unfold mesG
  omega

theorem tail_back (L : List Ent) (id : Int) (n : Nat) (h : n ≤ (txt L id).length) : tailG L true id n = ((txt L id).take n).reverse := by
  unfold tailG txB
  rw [if_pos rfl, List.length_reverse, List.drop_reverse]
  congr 2
  omega
theorem tail_fore (L : List Ent) (id : Int) (i : Nat) (h : i ≤ (txt L id).length) : tailG L false id ((txt L id).length - i) = (txt L id).drop i := by
  unfold tailG txB
  rw [if_neg (by decide)]
  congr 1
  omega

/-- Two new readers and what is common to them. -/
theorem px_both {B : Nat} {w w2 w3 w4 : World} {pp tp p mb : Nat} {most : Int} {L : List Ent} {T : List KRow} {back : Bool} {R1 R2 : List Int} {v1 v2 : Value} {td1 td2 : List (Int × Int)} {e : Ending} (hp : Pq B w pp tp p mb most L T)
    (o1 : w2.ownsRow w.heap.size 161 2 v1 td1.length (td1.flatMap gvZ)) (g1 : GAll L td1) (r1 : restG L back td1 = R1) (f1 : Fr0 w w2)
    (o2 : w3.ownsRow w2.heap.size 161 2 v2 td2.length (td2.flatMap gvZ)) (g2 : GAll L td2) (r2 : restG L back td2 = R2) (f2 : Fr0 w2 w3) (h1 : R1.length ≤ 300) (h2 : R2.length ≤ 300) :
    Calls Tryz.prog 82 #[.agg #[.pointer (some ⟨pp, 0, none⟩), .bool back, v1], .agg #[.pointer (some ⟨pp, 0, none⟩), .bool back, v2]] w3 (KyPost B w pp tp p mb most L (.int .i64 (cpl R1 R2 : Nat))) := by
  subst r1 r2
  have hm := mes_le L back td1 td2
  have hs1 := Fr.size f1
  have hs2 := Fr.size f2
  have hB := hp.base
  have ox := f2.owns o1
  have F := Fr0.trans f1 f2
  refine (px_common (base := w.heap.size) (hp.kept0 F) ox (owns_dn o2 hs1) (fun k hk hk2 => ?_) hB (Nat.le_trans hs1 hs2) g1 g2 (by omega) (by omega)).mono ?_
  · have a1 := (o1.lt k hk).2
    have a2 := (o2.lt k hk2).1
    omega
  · rintro e w4 ⟨rfl, ⟨T4, h4⟩, hk⟩
    refine ⟨T4, rfl, h4, Ks.next (Ks.of0 F) hk (fun i hi e => ?_)⟩
    rcases e with e | e
    · have := (o1.lt i e).1; omega
    · have := (o2.lt i e).1; omega

set_option maxRecDepth 100000 in
set_option maxHeartbeats 4000000 in
theorem px_Before {B : Nat} {w : World} {pp tp p mb : Nat} {most : Int} {L : List Ent} {T : List KRow} (hp : Pq B w pp tp p mb most L T) {a b : Int} (ha : SigOk L a) (hb : SigOk L b) (la : (txt L a).length ≤ 300) (lb : (txt L b).length ≤ 300) (i j : Nat) (hi : i ≤ (txt L a).length) (hj : j ≤ (txt L b).length) :
    Calls Tryz.prog 80 #[.pointer (some ⟨pp, 0, none⟩), .int .i64 a, .int .i64 i, .int .i64 b, .int .i64 j] w (KyPost B w pp tp p mb most L (.tuple #[.int .i64 (csl (txt L a) (txt L b) i j : Nat), .nilIface])) := by
  have C := Lib.hid (px_within hp ha hb i j (by omega) (by omega) (by omega) (by omega))
  have CA := Lib.hid (fun (W : World) T' (hW : Pq B W pp tp p mb most L T') => px_new hW a i true hi (by omega) (fun h => ha.grp hW.dok (by omega)))
  have CB := Lib.hid (fun (W : World) T' (hW : Pq B W pp tp p mb most L T') => px_new hW b j true hj (by omega) (fun h => hb.grp hW.dok (by omega)))
  have CC := Lib.hid (fun (w1 w2 w3 : World) (T1 : List KRow) (v1 v2 : Value) (td1 td2 : List (Int × Int)) (hp1 : Pq B w1 pp tp p mb most L T1) o1 g1 r1 f1 o2 g2 r2 f2 => @px_both B w1 w2 w3 w3 pp tp p mb most L T1 true (tailG L true a i) (tailG L true b j) v1 v2 td1 td2 (.returned .nilIface) hp1 o1 g1 r1 f1 o2 g2 r2 f2 (by rw [tailG_len _ _ _ hi]; omega) (by rw [tailG_len _ _ _ hj]; omega))
  have HV : Hid (cpl (tailG L true a i) (tailG L true b j) = csl (txt L a) (txt L b) i j) := by
    show _ = _
    rw [tail_back L a i hi, tail_back L b j hj]
    rfl
  clear hp ha hb
  go_enter Tryz.func80, Tryz.ntmps80
  go_wp2_with fail
  refine C.out.mono ?_
  rintro e w1 ⟨T1, rfl, hp1, hx1⟩
  have HP1 := Lib.hid hp1
  have HX1 := Lib.hid hx1
  have CA1 := Lib.hid (CA.out _ _ hp1)
  clear hp1 hx1 C CA
  go_wp2_with fail
  refine CA1.out.mono ?_
  rintro e w2 ⟨v1, td1, rfl, o1, g1, r1, f1⟩
  have CB1 := Lib.hid (CB.out _ _ (HP1.out.kept0 f1))
  have CC1 := Lib.hid (fun w3 v2 td2 o2 g2 r2 f2 => CC.out w1 w2 w3 _ v1 v2 td1 td2 HP1.out o1 g1 r1 f1 o2 g2 r2 f2)
  clear o1 g1 r1 f1 CA1 CB CC
  go_wp2_with fail
  refine CB1.out.mono ?_
  rintro e w3 ⟨v2, td2, rfl, o2, g2, r2, f2⟩
  have CC2 := Lib.hid (CC1.out _ _ _ o2 g2 r2 f2)
  clear o2 g2 r2 f2 CB1 CC1
  go_wp2_with fail
  refine CC2.out.mono ?_
  rintro e w4 ⟨T4, rfl, hp4, hx4⟩
  have HP4 := Lib.hid hp4
  have HX4 := Lib.hid (Ks.trans HX1.out hx4)
  clear hp4 hx4 CC2
  rw [HV.out]
  go_wp2_with fail
  go_ret2
  exact ⟨T4, rfl, HP4.out, HX4.out⟩

set_option maxRecDepth 100000 in
set_option maxHeartbeats 4000000 in
theorem px_At {B : Nat} {w : World} {pp tp p mb : Nat} {most : Int} {L : List Ent} {T : List KRow} (hp : Pq B w pp tp p mb most L T) {a b : Int} (ha : SigOk L a) (hb : SigOk L b) (la : (txt L a).length ≤ 300) (lb : (txt L b).length ≤ 300) (i j : Nat) (hi : i ≤ (txt L a).length) (hj : j ≤ (txt L b).length) :
    Calls Tryz.prog 62 #[.pointer (some ⟨pp, 0, none⟩), .int .i64 a, .int .i64 i, .int .i64 b, .int .i64 j] w (KyPost B w pp tp p mb most L (.tuple #[.int .i64 (cpl ((txt L a).drop i) ((txt L b).drop j) : Nat), .nilIface])) := by
  have C := Lib.hid (px_within hp ha hb i j (by omega) (by omega) (by omega) (by omega))
  have CZA := Lib.hid (fun (W : World) T' (hW : Pq B W pp tp p mb most L T') => px_size hW a ha.kn)
  have CZB := Lib.hid (fun (W : World) T' (hW : Pq B W pp tp p mb most L T') => px_size hW b hb.kn)
  have CA := Lib.hid (fun (W : World) T' (hW : Pq B W pp tp p mb most L T') => px_new hW a ((txt L a).length - i) false (by omega) (by omega) (fun h => ha.grp hW.dok (by omega)))
  have CB := Lib.hid (fun (W : World) T' (hW : Pq B W pp tp p mb most L T') => px_new hW b ((txt L b).length - j) false (by omega) (by omega) (fun h => hb.grp hW.dok (by omega)))
  have CC := Lib.hid (fun (w1 w2 w3 : World) (T1 : List KRow) (v1 v2 : Value) (td1 td2 : List (Int × Int)) (hp1 : Pq B w1 pp tp p mb most L T1) o1 g1 r1 f1 o2 g2 r2 f2 => @px_both B w1 w2 w3 w3 pp tp p mb most L T1 false (tailG L false a ((txt L a).length - i)) (tailG L false b ((txt L b).length - j)) v1 v2 td1 td2 (.returned .nilIface) hp1 o1 g1 r1 f1 o2 g2 r2 f2 (by rw [tailG_len _ _ _ (by omega)]; omega) (by rw [tailG_len _ _ _ (by omega)]; omega))
  have HV : Hid (cpl (tailG L false a ((txt L a).length - i)) (tailG L false b ((txt L b).length - j)) = cpl ((txt L a).drop i) ((txt L b).drop j)) := by
    show _ = _
    rw [tail_fore L a i hi, tail_fore L b j hj]
  have q1 : IntKind.i64.wrap (((txt L a).length : Int) - (i : Int)) = (((txt L a).length - i : Nat) : Int) := by
    rw [show ((txt L a).length : Int) - (i : Int) = (((txt L a).length - i : Nat) : Int) by omega]; exact wrapI (by omega) (by omega)
  have q2 : IntKind.i64.wrap (((txt L b).length : Int) - (j : Int)) = (((txt L b).length - j : Nat) : Int) := by
    rw [show ((txt L b).length : Int) - (j : Int) = (((txt L b).length - j : Nat) : Int) by omega]; exact wrapI (by omega) (by omega)
  generalize (txt L a).length - i = n1 at *
  generalize (txt L b).length - j = n2 at *
  clear hp ha hb
  go_enter Tryz.func62, Tryz.ntmps62
  go_wp2_with fail
  refine C.out.mono ?_
  rintro e w1 ⟨T1, rfl, hp1, hx1⟩
  have HP1 := Lib.hid hp1
  have HX1 := Lib.hid hx1
  have CZ1 := Lib.hid (CZA.out _ _ hp1)
  clear hp1 hx1 C CZA
  go_wp2_with fail
  refine CZ1.out.mono ?_
  rintro e w1' ⟨rfl, f0⟩
  have HP1' := Lib.hid (HP1.out.kept0 f0)
  have HX1' := Lib.hid (Ks.trans HX1.out (Ks.of0 f0))
  have CA1 := Lib.hid (CA.out _ _ HP1'.out)
  clear f0 HP1 HX1 CZ1 CA
  go_wp2_with fail
  refine CA1.out.mono ?_
  rintro e w2 ⟨v1, td1, rfl, o1, g1, r1, f1⟩
  have CZ2 := Lib.hid (CZB.out _ _ (HP1'.out.kept0 f1))
  have CB1 := Lib.hid (fun W (hW : Fr0 w2 W) => CB.out _ _ (HP1'.out.kept0 (Fr0.trans f1 hW)))
  have CC1 := Lib.hid (fun W (hW : Fr0 w2 W) w3 v2 td2 o2 g2 r2 f2 => CC.out w1' W w3 _ v1 v2 td1 td2 HP1'.out (hW.owns o1) g1 r1 (Fr0.trans f1 hW) o2 g2 r2 f2)
  clear o1 g1 r1 f1 CA1 CB CC CZB
  go_wp2_with fail
  refine CZ2.out.mono ?_
  rintro e w2' ⟨rfl, f0⟩
  have CB2 := Lib.hid (CB1.out _ f0)
  have CC2 := Lib.hid (CC1.out _ f0)
  clear f0 CB1 CC1 CZ2
  go_wp2_with fail
  refine CB2.out.mono ?_
  rintro e w3 ⟨v2, td2, rfl, o2, g2, r2, f2⟩
  have CC3 := Lib.hid (CC2.out _ _ _ o2 g2 r2 f2)
  clear o2 g2 r2 f2 CB2 CC2
  go_wp2_with fail
  refine CC3.out.mono ?_
  rintro e w4 ⟨T4, rfl, hp4, hx4⟩
  have HP4 := Lib.hid hp4
  have HX4 := Lib.hid (Ks.trans HX1'.out hx4)
  clear hp4 hx4 CC3
  rw [HV.out]
  go_wp2_with fail
  go_ret2
  exact ⟨T4, rfl, HP4.out, HX4.out⟩

end Go.Proofs.YtodmpcnpedpheaaGreatDoor

/- The rows of a comparison in memory; row.at, table.distance. -/
set_option linter.unusedSimpArgs false
set_option linter.unusedVariables false
namespace Go.Proofs.YtodmpcnpedpheaaGreatDoor
open Go.RowKit

/-- A list of integers of the call's own. -/
def frmO (base : Nat) (W : World) (v : Value) (l : List Int) : Prop := W.ownsRow base 3 1 v l.length (l.map fun x => Value.int .i64 x)

/-- A row's cells. -/
def rwZ (p : RowD × Value) : List Value := [.int .i64 p.1.low, p.2]
/-- A table in memory. -/
structure TabD (base : Nat) (W : World) (tb pp : Nat) (a b n m : Int) (rs : List (RowD × Value)) (v : Value) : Prop where
  box : W.heap[tb]? = some (Obj.cells #[.pointer (some ⟨pp, 0, none⟩), .int .i64 a, .int .i64 b, .int .i64 n, .int .i64 m, v] 99 (0, 0))
  row : W.ownsRow base 143 2 v rs.length (rs.flatMap rwZ)
  each : ∀ p ∈ rs, frmO base W p.2 p.1.frm

theorem TabD.keptX {B mb base : Nat} {w w' : World} {tb pp : Nat} {a b n m : Int} {rs : List (RowD × Value)} {v : Value} (h : TabD base w tb pp a b n m rs v) (hf : Kx B mb w w') : TabD base w' tb pp a b n m rs v :=
  ⟨hf.cells _ _ _ _ h.box (by decide) id, Kx.owns hf h.row (by decide), fun p hp => Kx.owns hf (h.each p hp) (by decide)⟩
theorem TabD.kept0 {base : Nat} {w w' : World} {tb pp : Nat} {a b n m : Int} {rs : List (RowD × Value)} {v : Value} (h : TabD base w tb pp a b n m rs v) (hf : Fr0 w w') : TabD base w' tb pp a b n m rs v :=
  ⟨hf.kept h.box, hf.owns h.row, fun p hp => hf.owns (h.each p hp)⟩

theorem cells6t {w : World} {b : Nat} {x0 x1 x2 x3 x4 x5 : Value} {t : TypeId} (h : w.heap[b]? = some (.cells #[x0, x1, x2, x3, x4, x5] t (0, 0))) :
    w.cell? ⟨b, 0, none⟩ = some x0 ∧ w.cell? ⟨b, 1, none⟩ = some x1 ∧ w.cell? ⟨b, 2, none⟩ = some x2 ∧ w.cell? ⟨b, 3, none⟩ = some x3 ∧ w.cell? ⟨b, 4, none⟩ = some x4 ∧ w.cell? ⟨b, 5, none⟩ = some x5 ∧ b < w.heap.size ∧ ∀ o, w.frozen? ⟨b, o, none⟩ = false :=
  ⟨by rw [cell_of_block h]; rfl, by rw [cell_of_block h]; rfl, by rw [cell_of_block h]; rfl, by rw [cell_of_block h]; rfl, by rw [cell_of_block h]; rfl, by rw [cell_of_block h]; rfl, lt_of_block h, fun o => by simp [World.frozen?, h]⟩

set_option maxRecDepth 100000 in
set_option maxHeartbeats 4000000 in
theorem df_at {base : Nat} {w : World} {r : RowD} {v : Value} (h : frmO base w v r.frm) (hn : r.frm.length ≤ 1000000) (hl : -1000000 ≤ r.low) (hl2 : r.low ≤ 1000000) (d : Int) (hd : -1000000 ≤ d) (hd2 : d ≤ 1000000) :
    Calls Tryz.prog 61 #[.agg #[.int .i64 r.low, v], .int .i64 d] w fun e w' => e = .returned (.int .i64 (r.at d)) ∧ Fr0 w w' := by
  have h' := h
  unfold frmO at h'
  obtain ⟨va, vc, rfl⟩ := owns_form h'
  have q1' : IntKind.i64.wrap (d - r.low) = d - r.low := wrapI (by omega) (by omega)
  obtain ⟨R, hR⟩ : ∃ R, r.at d = R := ⟨_, rfl⟩
  have HR := Lib.hid hR
  rw [hR]
  unfold RowD.at at hR
  obtain ⟨x, hx⟩ : ∃ x, d - r.low = x := ⟨_, rfl⟩
  have q1 : IntKind.i64.wrap (d - r.low) = x := by rw [q1', hx]
  rw [hx] at hR
  have hxb : x ≤ 2000000 := by omega
  clear q1'
  by_cases c0 : 0 ≤ x
  · have q2 : decide (0 ≤ x) = true := decide_eq_true c0
    by_cases c1 : x < r.frm.length
    · have q3 : decide (x < (r.frm.length : Int)) = true := decide_eq_true c1
      rw [if_pos ⟨c0, c1⟩] at hR
      have hne : r.frm ≠ [] := fun e => by rw [e] at c1; simp at c1; omega
      obtain ⟨g, cap, hv, hg, hrow, h1, h2⟩ := rowC_of_own h hne
      cases hv
      obtain ⟨j, hj⟩ : ∃ j : Nat, x = j := ⟨x.toNat, by omega⟩
      have hjl : j < r.frm.length := by omega
      have x0 := hrow.2 j hjl
      have hlt := hrow.1
      rw [hj, Int.toNat_natCast, List.getD_eq_getElem?_getD, List.getElem?_eq_getElem hjl] at hR
      simp only [Option.getD_some] at hR
      rw [hR] at x0
      rw [hj] at q1 q2 q3
      have q4 : (j : Int) < (r.frm.length : Int) := by omega
      have q5 : (0 : Int) ≤ (j : Int) := by omega
      clear h h' hrow HR hR c0 c1 hj hne hjl hx
      generalize r.frm.length = n at *
      generalize r.low = low at *
      go_enter Tryz.func61, Tryz.ntmps61
      go_wp2_with fail
      go_ret
      exact ⟨rfl, (Fr0.refl w).alloc _⟩
    · have q3 : decide (x < (r.frm.length : Int)) = false := decide_eq_false c1
      rw [if_neg (fun e => c1 e.2)] at hR
      generalize r.frm.length = n at *
      generalize r.low = low at *
      have hR' : R = 1152921504606846977 := hR.symm
      clear h h' HR hR c0 c1 hx
      subst hR'
      go_enter Tryz.func61, Tryz.ntmps61
      go_wp2_with fail
      go_ret
      exact ⟨rfl, (Fr0.refl w).alloc _⟩
  · have q2 : decide (0 ≤ x) = false := decide_eq_false c0
    rw [if_neg (fun e => c0 e.1)] at hR
    generalize r.frm.length = n at *
    generalize r.low = low at *
    have hR' : R = 1152921504606846977 := hR.symm
    clear h h' HR hR c0 hx
    subst hR'
    go_enter Tryz.func61, Tryz.ntmps61
    go_wp2_with fail
    go_ret
    exact ⟨rfl, (Fr0.refl w).alloc _⟩

set_option maxRecDepth 100000 in
theorem df_distance {base : Nat} {w : World} {tb pp : Nat} {a b n m : Int} {rs : List (RowD × Value)} {v : Value} (h : TabD base w tb pp a b n m rs v) (h1 : 1 ≤ rs.length) (h2 : rs.length ≤ 1000000) :
    Calls Tryz.prog 34 #[.pointer (some ⟨tb, 0, none⟩)] w fun e w' => e = .returned (.int .i64 ((rs.length - 1 : Nat) : Int)) ∧ w' = w := by
  obtain ⟨va, vc, rfl⟩ := owns_form h.row
  obtain ⟨c0, c1, c2, c3, c4, c5, lt, cf⟩ := cells6t h.box
  have q1 : IntKind.i64.wrap ((rs.length : Int) - 1) = ((rs.length - 1 : Nat) : Int) := by rw [show (rs.length : Int) - 1 = ((rs.length - 1 : Nat) : Int) by omega]; exact wrapI (by omega) (by omega)
  generalize rs.length - 1 = k at *
  clear h
  go_enter Tryz.func34, Tryz.ntmps34
  go_wp2_with fail
  go_ret
  exact ⟨rfl, rfl⟩

end Go.Proofs.YtodmpcnpedpheaaGreatDoor

/- The walk of table.step. -/
set_option linter.unusedSimpArgs false
set_option linter.unusedVariables false
namespace Go.Proofs.YtodmpcnpedpheaaGreatDoor
open Go.RowKit

theorem TabD.cell {base : Nat} {w : World} {tb pp : Nat} {a b n m : Int} {rs : List (RowD × Value)} {v : Value} (h : TabD base w tb pp a b n m rs v) (i : Nat) (hi : i < rs.length) :
    ∃ g c vi ci, v = .slice (some ⟨g, 0, none⟩) rs.length c ∧ rs[i].2 = .slice vi rs[i].1.frm.length ci ∧ w.cell? ⟨g, i * 2, none⟩ = some (.int .i64 rs[i].1.low) ∧ w.cell? ⟨g, i * 2 + 1, none⟩ = some (.slice vi rs[i].1.frm.length ci) ∧ g < w.heap.size := by
  have hr := h.row
  obtain ⟨vi, ci, hv⟩ := owns_form (h.each rs[i] (List.getElem_mem hi))
  rcases hr.2 with ⟨_, e⟩ | ⟨g, cap, cur, e, hb, hg, h1, h2, _⟩
  · omega
  · have hx : rs[i]? = some rs[i] := List.getElem?_eq_getElem hi
    have g0 := flat_get rwZ 2 rs (fun _ _ => rfl) i 0 (by omega) _ hx
    have g1 := flat_get rwZ 2 rs (fun _ _ => rfl) i 1 (by omega) _ hx
    have c0 := hr.cells (g := g) (by rw [e]; rfl) (i * 2 + 0) (.int .i64 rs[i].1.low) (by rw [g0]; rfl)
    have c1 := hr.cells (g := g) (by rw [e]; rfl) (i * 2 + 1) rs[i].2 (by rw [g1]; rfl)
    rw [hv] at c1
    exact ⟨g, cap, vi, ci, e, hv, by simpa only [Addr.add_lit, Nat.zero_add, Nat.add_zero] using c0, by simpa only [Addr.add_lit, Nat.zero_add] using c1, lt_of_block hg⟩

theorem rowF_bnd {A B : List Int} (hA : A.length ≤ 300) (hB : B.length ≤ 300) {e : Nat} (he : e ≤ 300) : (rowF A B e).frm.length ≤ 1000000 ∧ -1000000 ≤ (rowF A B e).low ∧ (rowF A B e).low ≤ 1000000 := by
  unfold rowF dlow dhigh
  dsimp only
  rw [List.length_map, List.length_range]
  omega

theorem cell_bnd {A B : List Int} (hA : A.length ≤ 300) {e : Nat} {d v : Int} (h : Cell A B e d v) : v = 1152921504606846977 ∨ (0 ≤ v ∧ v ≤ 300) := by
  rcases h with h | ⟨x, y, h1, h2, h3, h4, h5⟩
  · exact .inl h
  · exact .inr (by omega)

set_option maxRecDepth 100000 in
set_option maxHeartbeats 4000000 in
theorem df_step0 {base : Nat} {w : World} {tb pp : Nat} {a b : Int} {A B : List Int} {v : Value} (h : TabD base w tb pp a b A.length B.length [] v) (hA : A.length ≤ 300) (hB : B.length ≤ 300) (d : Int) :
    Calls Tryz.prog 79 #[.pointer (some ⟨tb, 0, none⟩), .int .i64 d] w fun e w' => e = .returned (.int .i64 (preF A B 0 d)) ∧ Fr0 w w' := by
  obtain ⟨va, vc, rfl⟩ := owns_form h.row
  obtain ⟨c0, c1, c2, c3, c4, c5, lt, cf⟩ := cells6t h.box
  rw [List.length_nil] at c5
  have q1 : IntKind.i64.wrap ((A.length : Int) - (B.length : Int)) = (A.length : Int) - (B.length : Int) := wrapI (by omega) (by omega)
  have hP : preF A B 0 d = if d = (A.length : Int) - B.length then (A.length : Int) else 1152921504606846977 := rfl
  rw [hP]
  clear h hP
  generalize A.length = n at *
  generalize B.length = m at *
  by_cases hd : d = (n : Int) - m
  · rw [if_pos hd]
    have q2 : (d == (n : Int) - (m : Int)) = true := by rw [hd]; simp
    clear hd
    go_enter Tryz.func79, Tryz.ntmps79
    go_wp2_with fail
    go_quiet (fail)
    go_wp2_with fail
    go_ret
    exact ⟨rfl, (Fr0.refl w).drewN _⟩
  · rw [if_neg hd]
    have q2 : (d == (n : Int) - (m : Int)) = false := beq_eq_false_iff_ne.2 hd
    clear hd
    go_enter Tryz.func79, Tryz.ntmps79
    go_wp2_with fail
    go_quiet (fail)
    go_wp2_with fail
    go_ret
    exact ⟨rfl, (Fr0.refl w).drewN _⟩

set_option maxRecDepth 100000 in
set_option maxHeartbeats 4000000 in
theorem df_step1 {base : Nat} {w : World} {tb pp : Nat} {a b : Int} {A B : List Int} {rs : List (RowD × Value)} {v : Value} (h : TabD base w tb pp a b A.length B.length rs v) (hR : ∀ i (hi : i < rs.length), rs[i].1 = rowF A B i) (hA : A.length ≤ 300) (hB : B.length ≤ 300) (k : Nat) (hk : rs.length = k + 1) (he : rs.length ≤ 257) (d : Int) (hd : -1000 ≤ d) (hd2 : d ≤ 1000) :
    Calls Tryz.prog 79 #[.pointer (some ⟨tb, 0, none⟩), .int .i64 d] w fun e w' => e = .returned (.int .i64 (preF A B rs.length d)) ∧ Fr0 w w' := by
  have hn : A.length ≤ 1152921504606846976 := by omega
  obtain ⟨g, gc, vi, ci, rfl, hv2, x0, x1, lg⟩ := h.cell k (by omega)
  have hrk := hR k (by omega)
  have heach := h.each _ (List.getElem_mem (show k < rs.length by omega))
  rw [hv2] at heach
  rw [hrk] at x0 x1 heach
  obtain ⟨b1, b2, b3⟩ := rowF_bnd hA hB (e := k) (by omega)
  obtain ⟨c0, c1, c2, c3, c4, c5, lt, cf⟩ := cells6t h.box
  obtain ⟨P, hP⟩ : ∃ P, atF A B k (d + 1) = P := ⟨_, rfl⟩
  obtain ⟨Q, hQ⟩ : ∃ Q, atF A B k (d - 1) = Q := ⟨_, rfl⟩
  have CP : Hid (∀ W, Fr0 w W → Calls Tryz.prog 61 #[.agg #[.int .i64 (rowF A B k).low, .slice vi (rowF A B k).frm.length ci], .int .i64 (d + 1)] W fun e w' => e = .returned (.int .i64 P) ∧ Fr0 W w') := fun W hW => by
    have := df_at (hW.owns heach) b1 b2 b3 (d + 1) (by omega) (by omega)
    rw [rowF_at, hP] at this
    exact this
  have CQ : Hid (∀ W, Fr0 w W → Calls Tryz.prog 61 #[.agg #[.int .i64 (rowF A B k).low, .slice vi (rowF A B k).frm.length ci], .int .i64 (d - 1)] W fun e w' => e = .returned (.int .i64 Q) ∧ Fr0 W w') := fun W hW => by
    have := df_at (hW.owns heach) b1 b2 b3 (d - 1) (by omega) (by omega)
    rw [rowF_at, hQ] at this
    exact this
  have hPb := cell_bnd hA (atF_cell hn k (d + 1) (B := B))
  have hQb := cell_bnd hA (atF_cell hn k (d - 1) (B := B))
  rw [hP] at hPb
  rw [hQ] at hQb
  have HH := Lib.hid h
  have hkk : (rs.length : Int) = (k : Int) + 1 := by omega
  rw [hk] at c5 ⊢
  have q1 : IntKind.i64.wrap ((k : Int) + 1 - 1) = (k : Int) := by rw [show (k : Int) + 1 - 1 = (k : Int) by omega]; exact wrapI (by omega) (by omega)
  have q2 : (0 : Int) ≤ (k : Int) := by omega
  have q3 : (k : Int) < (k : Int) + 1 := by omega
  have q4 : ((k : Int) + 1 == 0) = false := beq_eq_false_iff_ne.2 (by omega)
  have q5 : IntKind.i64.wrap (d + 1) = d + 1 := wrapI (by omega) (by omega)
  have q6 : IntKind.i64.wrap (d - 1) = d - 1 := wrapI (by omega) (by omega)
  have hpre : Hid (preF A B (k + 1) d = if min (x2F P Q d) (if k = 0 then NONE else atF A B (k - 1) d) < max d 0 then NONE else min (x2F P Q d) (if k = 0 then NONE else atF A B (k - 1) d)) := by
    show _ = _
    cases k with
    | zero => rw [if_pos rfl, ← hP, ← hQ]; rfl
    | succ k =>
      have e : (if k + 1 = 0 then NONE else atF A B (k + 1 - 1) d) = atF A B k d := by rw [if_neg (by omega)]; rfl
      rw [e, ← hP, ← hQ]; rfl
  obtain ⟨X1, hX1⟩ : ∃ X1, x1F P = X1 := ⟨_, rfl⟩
  have hX1b : X1 ≤ 1152921504606846977 ∧ -1 ≤ X1 := by rw [← hX1]; unfold x1F NONE; split <;> omega
  obtain ⟨X2, hX2⟩ : ∃ X2, x2F P Q d = X2 := ⟨_, rfl⟩
  have hX2' : X2 = if Q ≠ 1152921504606846977 ∧ d - 1 < Q then min X1 Q else X1 := by rw [← hX2, ← hX1]; rfl
  have hX2b : X2 ≤ 1152921504606846977 ∧ -1 ≤ X2 := by rw [hX2']; split <;> omega
  obtain ⟨R, hRR⟩ : ∃ R, (if k = 0 then NONE else atF A B (k - 1) d) = R := ⟨_, rfl⟩
  rw [hX2, hRR] at hpre
  have hRb : R = 1152921504606846977 ∨ (0 ≤ R ∧ R ≤ 300) := by
    rw [← hRR]
    by_cases c : k = 0
    · rw [if_pos c]; exact .inl rfl
    · rw [if_neg c]; exact cell_bnd hA (atF_cell hn _ _)
  obtain ⟨V, hV⟩ : ∃ V, min X2 R = V := ⟨_, rfl⟩
  rw [hV] at hpre
  rw [hpre.out]
  obtain ⟨Y, hY⟩ : ∃ Y, (if V < max d 0 then NONE else V) = Y := ⟨_, rfl⟩
  rw [hY]
  have HY := Lib.hid hY
  clear hY
  have HV := Lib.hid hV
  have HRR := Lib.hid hRR
  have HX1 : Hid (x1F P = X1) := hX1
  have HX2 := Lib.hid hX2'
  clear hV hRR hX1 hX2' hX2 hpre
  clear h hv2 heach b1 b2 b3 hP hQ hrk
  generalize (rowF A B k).low = low at *
  generalize (rowF A B k).frm.length = fl at *
  go_enter Tryz.func79, Tryz.ntmps79
  go_wp2_with fail
  have b8 := alloc_at w (.cells #[.int .i64 low, .slice vi fl ci] 143 (0, 0)) w.heap.size rfl
  have F1 : Fr0 w (w.alloc (.cells #[.int .i64 low, .slice vi fl ci] 143 (0, 0))) := (Fr0.refl w).alloc _
  generalize w.alloc (.cells #[.int .i64 low, .slice vi fl ci] 143 (0, 0)) = W1 at *
  have HB8 := Lib.hid b8
  have CQ1 := Lib.hid (fun W (hW : Fr0 W1 W) => CQ.out W (F1.trans hW))
  refine (CP.out W1 F1).mono ?_
  rintro e w2 ⟨rfl, f2⟩
  have CQ2 := Lib.hid (CQ1.out w2 f2)
  have b9 := f2.kept HB8.out
  have F2 := Lib.hid (F1.trans f2)
  clear b8 F1 f2 CP CQ CQ1 HB8 c0 c1 c2 c3 c4 c5 x0 x1 lg lt cf
  obtain ⟨e0, e1, ef, le⟩ := cells2 b9
  clear b9
  obtain ⟨cp, hcp⟩ : ∃ cp : Bool, decide (P ≠ 1152921504606846977 ∧ 0 < P) = cp := ⟨_, rfl⟩
  have HCP := Lib.hid hcp
  clear hcp
  go_upto_region 9 with fail
  go_cut [49] (fun v wx => v = .bool cp ∧ w2 = wx)
  case first =>
    clear CQ2 e0 e1 ef le HH hR HX2 HRR HV hkk q1 q2 q3 q4 q5 q6 hX2b hRb hQb
    rcases hPb with rfl | ⟨p0, p1⟩
    · have : cp = false := HCP.out.symm
      subst this
      go_wp2_with fail
      go_meet
      exact ⟨rfl, rfl⟩
    · have z1 : (P != 1152921504606846977) = true := bne_iff_ne.2 (by omega)
      by_cases hp : 0 < P
      · have z2 : decide (0 < P) = true := decide_eq_true hp
        have : cp = true := by rw [← HCP.out]; exact decide_eq_true ⟨by omega, hp⟩
        subst this
        go_wp2_with fail
        go_meet
        exact ⟨rfl, rfl⟩
      · have z2 : decide (0 < P) = false := decide_eq_false hp
        have : cp = false := by rw [← HCP.out]; exact decide_eq_false (fun h => hp h.2)
        subst this
        go_wp2_with fail
        go_meet
        exact ⟨rfl, rfl⟩
  case rest =>
  obtain ⟨rfl, rfl⟩ := hcut
  go_upto_if 49 with fail
  go_cut [6] (fun v wx => v = .int .i64 X1 ∧ w2 = wx)
  case first =>
    clear CQ2 e0 e1 ef le HH hR HX2 HRR HV hkk q1 q2 q3 q4 q5 q6 hX2b hRb hQb
    cases cp with
    | true =>
      have hc := of_decide_eq_true HCP.out
      have z3 : IntKind.i64.wrap (P - 1) = P - 1 := wrapI (by omega) (by omega)
      have z4 : ¬ (1152921504606846977 ≤ P - 1) := by omega
      have : X1 = P - 1 := by rw [← HX1.out]; unfold x1F NONE; rw [if_pos hc]; omega
      subst this
      clear HX1 hc HCP
      go_wp2_with fail
      go_meet
      exact ⟨rfl, rfl⟩
    | false =>
      have hc := of_decide_eq_false HCP.out
      have : X1 = 1152921504606846977 := by rw [← HX1.out]; unfold x1F NONE; rw [if_neg hc]
      subst this
      clear HX1 hc HCP
      go_wp2_with fail
      go_meet
      exact ⟨rfl, rfl⟩
  case rest =>
  obtain ⟨rfl, rfl⟩ := hcut
  clear hPb HX1 HCP
  go_wp2_with fail
  refine CQ2.out.mono ?_
  rintro e w3 ⟨rfl, f3⟩
  have F3 := Lib.hid (F2.out.trans f3)
  clear f3 F2 CQ2 e0 e1 ef le
  obtain ⟨cq, hcq⟩ : ∃ cq : Bool, decide (Q ≠ 1152921504606846977 ∧ d - 1 < Q) = cq := ⟨_, rfl⟩
  have HCQ := Lib.hid hcq
  clear hcq
  go_upto_region 12 with fail
  go_cut [65] (fun v wx => v = .bool cq ∧ w3 = wx)
  case first =>
    clear HH hR HX2 HRR HV hkk q1 q2 q3 q4 q5 hX2b hRb
    rcases hQb with rfl | ⟨p0, p1⟩
    · have : cq = false := HCQ.out.symm
      subst this
      go_wp2_with fail
      go_meet
      exact ⟨rfl, rfl⟩
    · have z1 : (Q != 1152921504606846977) = true := bne_iff_ne.2 (by omega)
      by_cases hp : d - 1 < Q
      · have z2 : decide (d - 1 < Q) = true := decide_eq_true hp
        have : cq = true := by rw [← HCQ.out]; exact decide_eq_true ⟨by omega, hp⟩
        subst this
        go_wp2_with fail
        go_meet
        exact ⟨rfl, rfl⟩
      · have z2 : decide (d - 1 < Q) = false := decide_eq_false hp
        have : cq = false := by rw [← HCQ.out]; exact decide_eq_false (fun h => hp h.2)
        subst this
        go_wp2_with fail
        go_meet
        exact ⟨rfl, rfl⟩
  case rest =>
  obtain ⟨rfl, rfl⟩ := hcut
  go_upto_if 65 with fail
  go_cut [6] (fun v wx => v = .int .i64 X2 ∧ w3 = wx)
  case first =>
    clear HH hR HRR HV hkk q1 q2 q3 q4 q5 q6 hX2b hRb
    cases cq with
    | true =>
      have hc := of_decide_eq_true HCQ.out
      by_cases hm : X1 ≤ Q
      · have : X2 = X1 := by rw [HX2.out, if_pos hc]; omega
        subst this
        clear HX2 hc HCQ
        go_wp2_with fail
        go_meet
        exact ⟨rfl, rfl⟩
      · have : X2 = Q := by rw [HX2.out, if_pos hc]; omega
        subst this
        clear HX2 hc HCQ
        go_wp2_with fail
        go_meet
        exact ⟨rfl, rfl⟩
    | false =>
      have hc := of_decide_eq_false HCQ.out
      have : X2 = X1 := by rw [HX2.out, if_neg hc]
      subst this
      clear HX2 hc HCQ
      go_wp2_with fail
      go_meet
      exact ⟨rfl, rfl⟩
  case rest =>
  obtain ⟨rfl, rfl⟩ := hcut
  clear hQb HX2 HCQ hX1b
  go_upto_if 70 with fail
  go_cut [6] (fun v wx => v = .int .i64 V ∧ Fr0 w wx)
  case first =>
    by_cases hk0 : k = 0
    · have z1 : decide ((1 : Int) < (k : Int) + 1) = false := decide_eq_false (by omega)
      have : V = X2 := by
        have h1 := HRR.out
        rw [if_pos hk0] at h1
        rw [← HV.out, ← h1]
        unfold NONE
        omega
      subst this
      clear HV HRR HH hR
      go_wp2_with fail
      go_meet
      exact ⟨rfl, F3.out⟩
    · have z1 : decide ((1 : Int) < (k : Int) + 1) = true := decide_eq_true (by omega)
      obtain ⟨g, gc, vi, ci, hgv, hv2, x0, x1, lg⟩ := (HH.out.kept0 F3.out).cell (k - 1) (by omega)
      obtain ⟨c0, c1, c2, c3, c4, c5, lt, cf⟩ := cells6t (HH.out.kept0 F3.out).box
      have hrk := hR (k - 1) (by omega)
      have heach := (HH.out.kept0 F3.out).each _ (List.getElem_mem (show k - 1 < rs.length by omega))
      rw [hv2] at heach
      rw [hrk] at x0 x1 heach
      obtain ⟨b1, b2, b3⟩ := rowF_bnd hA hB (e := k - 1) (by omega)
      have CR := df_at heach b1 b2 b3 d (by omega) (by omega)
      have hR2 := HRR.out
      rw [if_neg hk0] at hR2
      rw [rowF_at, hR2] at CR
      have CR2 := Lib.hid CR
      rw [hgv, hk] at c5
      rw [hk] at hgv
      have y1 : IntKind.i64.wrap ((k : Int) + 1 - 2) = ((k - 1 : Nat) : Int) := by rw [show (k : Int) + 1 - 2 = ((k - 1 : Nat) : Int) by omega]; exact wrapI (by omega) (by omega)
      have y2 : (0 : Int) ≤ ((k - 1 : Nat) : Int) := by omega
      have y3 : ((k - 1 : Nat) : Int) < (k : Int) + 1 := by omega
      clear HH hR hv2 heach CR hR2 b1 b2 b3 hrk hgv HRR
      generalize (rowF A B (k - 1)).low = low1 at *
      generalize (rowF A B (k - 1)).frm.length = fl1 at *
      generalize k - 1 = k1 at *
      by_cases hm : X2 ≤ R
      · have : V = X2 := by rw [← HV.out]; omega
        subst this
        clear HV
        go_wp2_with fail
        refine CR2.out.mono ?_
        rintro e w4 ⟨rfl, f4⟩
        have F4 := Lib.hid (F3.out.trans f4)
        clear f4
        go_wp2_with fail
        go_meet
        exact ⟨rfl, F4.out⟩
      · have : V = R := by rw [← HV.out]; omega
        subst this
        clear HV
        go_wp2_with fail
        refine CR2.out.mono ?_
        rintro e w4 ⟨rfl, f4⟩
        have F4 := Lib.hid (F3.out.trans f4)
        clear f4
        go_wp2_with fail
        go_meet
        exact ⟨rfl, F4.out⟩
  case rest =>
  obtain ⟨rfl, hF⟩ := hcut
  have HF := Lib.hid hF
  clear hF HV HRR HH F3 hR q1 q2 q3 q4 q5 q6 hX2b hRb
  by_cases hd0 : 0 ≤ d
  · by_cases hv : V < d
    · have : Y = 1152921504606846977 := by rw [← HY.out, if_pos (by omega)]; rfl
      subst this
      clear HY
      go_wp2_with fail
      go_ret
      exact ⟨rfl, HF.out⟩
    · have : Y = V := by rw [← HY.out, if_neg (by omega)]
      subst this
      clear HY
      go_wp2_with fail
      go_ret
      exact ⟨rfl, HF.out⟩
  · by_cases hv : V < 0
    · have : Y = 1152921504606846977 := by rw [← HY.out, if_pos (by omega)]; rfl
      subst this
      clear HY
      go_wp2_with fail
      go_ret
      exact ⟨rfl, HF.out⟩
    · have : Y = V := by rw [← HY.out, if_neg (by omega)]
      subst this
      clear HY
      go_wp2_with fail
      go_ret
      exact ⟨rfl, HF.out⟩

theorem df_step {base : Nat} {w : World} {tb pp : Nat} {a b : Int} {A B : List Int} {rs : List (RowD × Value)} {v : Value} (h : TabD base w tb pp a b A.length B.length rs v) (hR : ∀ i (hi : i < rs.length), rs[i].1 = rowF A B i) (hA : A.length ≤ 300) (hB : B.length ≤ 300) (he : rs.length ≤ 257) (d : Int) (hd : -1000 ≤ d) (hd2 : d ≤ 1000) :
    Calls Tryz.prog 79 #[.pointer (some ⟨tb, 0, none⟩), .int .i64 d] w fun e w' => e = .returned (.int .i64 (preF A B rs.length d)) ∧ Fr0 w w' := by
  cases rs with
  | nil => exact df_step0 h hA hB d
  | cons r rs => exact df_step1 h hR hA hB rs.length (by simp) he d hd hd2

end Go.Proofs.YtodmpcnpedpheaaGreatDoor

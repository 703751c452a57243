/- The walks of prefix: check, within, CommonAt, CommonBefore (at known signatures). -/
import Derived.Test.YtodmpcnpedpheaaDoorQPx4
import Derived.Test.YtodmpcnpedpheaaDoorQDf1
set_option linter.unusedSimpArgs false
set_option linter.unusedVariables false
namespace Go.Proofs.YtodmpcnpedpheaaDoor
open Go.RowKit

/-- The ID of a signature. -/
structure SigOk (L : List Ent) (id : Int) : Prop where
  kn : isKnown L id
  lv : id = 0 ∨ 0 ≤ klev L id

theorem SigOk.top {L : List Ent} {id : Int} (h : SigOk L id) : ∃ x : Int, topV L id = .tuple #[.int .i64 x, .nilIface] := by
  unfold topV
  split
  · exact ⟨0, rfl⟩
  · rename_i h0
    rcases h.lv with e | e
    · exact absurd e h0
    · rw [if_pos e]; exact ⟨_, rfl⟩

theorem SigOk.grp {L : List Ent} (hD : DOk L) {id : Int} (h : SigOk L id) (h1 : 1 ≤ (txt L id).length) : GOk L (id, 1) := by
  have h0 : id ≠ 0 := fun e => by
    rw [e, txt_zero] at h1
    simp at h1
  rcases h.lv with e | e
  · exact absurd e h0
  · exact ⟨h.kn, h0, e, by show (1 : Int) ≤ 1; omega⟩

theorem KyPost.trans {B : Nat} {w w1 w2 : World} {pp tp p mb : Nat} {most : Int} {L : List Ent} {v : Value} {e : Ending} (hk : Kx B mb w w1) (h : KyPost B w1 pp tp p mb most L v e w2) : KyPost B w pp tp p mb most L v e w2 := by
  obtain ⟨T, h1, h2, h3⟩ := h
  exact ⟨T, h1, h2, Ks.trans hk h3⟩

theorem ix2 {a b : Int} (W : World) : (Sem.run Tryd.prog (Instr.index 170 (.agg #[.int .i64 a, .int .i64 b]) (.int .i64 0)) W = .ok (.int .i64 a) W) ∧ (Sem.run Tryd.prog (Instr.index 170 (.agg #[.int .i64 a, .int .i64 b]) (.int .i64 1)) W = .ok (.int .i64 b) W) := by
  have h : Tryd.prog.underlying 170 = some (.array 2 26) := by kernel_rfl
  constructor
  · simp [Instr.index, run_underlying h, asIntOf, go_sem]
  · simp [Instr.index, run_underlying h, asIntOf, go_sem]

set_option maxRecDepth 100000 in
set_option maxHeartbeats 4000000 in
theorem px_check {B : Nat} {w : World} {pp tp p mb : Nat} {most : Int} {L : List Ent} {T : List KRow} (hp : Pq B w pp tp p mb most L T) {a b : Int} (ha : SigOk L a) (hb : SigOk L b) :
    Calls Tryd.prog 71 #[.pointer (some ⟨pp, 0, none⟩), .int .i64 a, .int .i64 b] w (KyPost B w pp tp p mb most L .nilIface) := by
  have CS := Lib.hid (sig_Store hp)
  have CL := Lib.hid (sto_LenQ hp.st)
  obtain ⟨xa, ea⟩ := ha.top
  obtain ⟨xb, eb⟩ := hb.top
  have CA := Lib.hid (fun (W : World) (hW : ∃ T', Pq B W pp tp p mb most L T') => by
    obtain ⟨T', hW⟩ := hW
    have := sig_Top hW a ha.kn
    rw [ea] at this
    exact this)
  have CB := Lib.hid (fun (W : World) (hW : ∃ T', Pq B W pp tp p mb most L T') => by
    obtain ⟨T', hW⟩ := hW
    have := sig_Top hW b hb.kn
    rw [eb] at this
    exact this)
  have HP := Lib.hid hp
  have a1 := ha.kn.1
  have a2 := ha.kn.2
  have b1 := hb.kn.1
  have b2 := hb.kn.2
  have q1 : decide (a < 0) = false := decide_eq_false (by omega)
  have q2 : decide ((L.length : Int) < a) = false := decide_eq_false (by omega)
  have q3 : decide (b < 0) = false := decide_eq_false (by omega)
  have q4 : decide ((L.length : Int) < b) = false := decide_eq_false (by omega)
  have I0 := fun W => (ix2 (a := a) (b := b) W).1
  have I1 := fun W => (ix2 (a := a) (b := b) W).2
  clear hp ha hb ea eb a1 a2 b1 b2
  go_enter Tryd.func71, Tryd.ntmps71
  go_wp2_with fail
  refine CS.out.mono ?_
  rintro e w1 ⟨rfl, rfl⟩
  go_wp2_with fail
  go_loopg [20] 2 (fun gk v wr => ((v = .int .i64 0 ∧ gk = 2) ∨ (v = .int .i64 1 ∧ gk = 1) ∨ (v = .int .i64 2 ∧ gk = 0)) ∧ w = wr)
  case atStart => exact ⟨.inl ⟨rfl, rfl⟩, rfl⟩
  case round =>
    obtain ⟨hv, hwr⟩ := hrel
    subst hwr
    rcases hv with ⟨rfl, rfl⟩ | ⟨rfl, rfl⟩ | ⟨rfl, rfl⟩
    · go_wp2_with fail
      refine CS.out.mono ?_
      rintro e w1 ⟨rfl, rfl⟩
      go_wp2_with fail
      refine CL.out.mono ?_
      rintro e w1 ⟨rfl, rfl⟩
      go_wp2_with fail
      go_roundg 1
      case measure => omega
      case rel => exact ⟨.inr (.inl ⟨rfl, rfl⟩), rfl⟩
    · go_wp2_with fail
      refine CS.out.mono ?_
      rintro e w1 ⟨rfl, rfl⟩
      go_wp2_with fail
      refine CL.out.mono ?_
      rintro e w1 ⟨rfl, rfl⟩
      go_wp2_with fail
      go_roundg 0
      case measure => omega
      case rel => exact ⟨.inr (.inr ⟨rfl, rfl⟩), rfl⟩
    · go_wp2_with fail
      go_loopg [37] 2 (fun gk v wr => ((v = .int .i64 0 ∧ gk = 2) ∨ (v = .int .i64 1 ∧ gk = 1) ∨ (v = .int .i64 2 ∧ gk = 0)) ∧ (∃ T', Pq B wr pp tp p mb most L T') ∧ Kx B mb w wr)
      case atStart => exact ⟨.inl ⟨rfl, rfl⟩, ⟨T, HP.out⟩, Ks.refl _ _ _ _⟩
      case round =>
        obtain ⟨hv, hq, hx⟩ := hrel
        have HX := Lib.hid hx
        rcases hv with ⟨rfl, rfl⟩ | ⟨rfl, rfl⟩ | ⟨rfl, rfl⟩
        · have C := Lib.hid (CA.out _ hq)
          clear hq hx
          go_wp2_with fail
          refine C.out.mono ?_
          rintro e w2 ⟨T2, rfl, hp2, hx2⟩
          have HP2 := Lib.hid hp2
          have HX2 := Lib.hid (Ks.trans HX.out hx2)
          clear hp2 hx2
          go_wp2_with fail
          go_roundg 1
          case measure => omega
          case rel => exact ⟨.inr (.inl ⟨rfl, rfl⟩), ⟨T2, HP2.out⟩, HX2.out⟩
        · have C := Lib.hid (CB.out _ hq)
          clear hq hx
          go_wp2_with fail
          refine C.out.mono ?_
          rintro e w2 ⟨T2, rfl, hp2, hx2⟩
          have HP2 := Lib.hid hp2
          have HX2 := Lib.hid (Ks.trans HX.out hx2)
          clear hp2 hx2
          go_wp2_with fail
          go_roundg 0
          case measure => omega
          case rel => exact ⟨.inr (.inr ⟨rfl, rfl⟩), ⟨T2, HP2.out⟩, HX2.out⟩
        · obtain ⟨T2, hq⟩ := hq
          have HQ := Lib.hid hq
          clear hq hx
          go_wp2_with fail
          go_ret
          exact ⟨T2, rfl, HQ.out, HX.out⟩

set_option maxRecDepth 100000 in
set_option maxHeartbeats 4000000 in
theorem px_within {B : Nat} {w : World} {pp tp p mb : Nat} {most : Int} {L : List Ent} {T : List KRow} (hp : Pq B w pp tp p mb most L T) {a b : Int} (ha : SigOk L a) (hb : SigOk L b) (i j : Int) (hi : 0 ≤ i) (hi2 : i ≤ (txt L a).length) (hj : 0 ≤ j) (hj2 : j ≤ (txt L b).length) :
    Calls Tryd.prog 56 #[.pointer (some ⟨pp, 0, none⟩), .int .i64 a, .int .i64 i, .int .i64 b, .int .i64 j] w (KyPost B w pp tp p mb most L .nilIface) := by
  have C := Lib.hid (px_check hp ha hb)
  have CA := Lib.hid (fun (W : World) T' (hW : Pq B W pp tp p mb most L T') => px_size hW a ha.kn)
  have CB := Lib.hid (fun (W : World) T' (hW : Pq B W pp tp p mb most L T') => px_size hW b hb.kn)
  have q1 : decide (i < 0) = false := decide_eq_false (by omega)
  have q2 : decide (((txt L a).length : Int) < i) = false := decide_eq_false (by omega)
  have q3 : decide (j < 0) = false := decide_eq_false (by omega)
  have q4 : decide (((txt L b).length : Int) < j) = false := decide_eq_false (by omega)
  clear hp ha hb
  go_enter Tryd.func56, Tryd.ntmps56
  go_wp2_with fail
  refine C.out.mono ?_
  rintro e w1 ⟨T1, rfl, hp1, hx1⟩
  have HP1 := Lib.hid hp1
  have HX1 := Lib.hid hx1
  have CA1 := Lib.hid (CA.out _ _ hp1)
  clear hp1 hx1 C
  go_wp2_with fail
  refine CA1.out.mono ?_
  rintro e w2 ⟨rfl, hf2⟩
  have CB1 := Lib.hid (CB.out _ _ (HP1.out.kept0 hf2))
  have HF2 := Lib.hid hf2
  clear hf2
  go_wp2_with fail
  refine CB1.out.mono ?_
  rintro e w3 ⟨rfl, hf3⟩
  have HF3 := Lib.hid (Fr0.trans HF2.out hf3)
  clear hf3
  go_wp2_with fail
  go_ret
  exact ⟨T1, rfl, HP1.out.kept0 HF3.out, Ks.trans HX1.out (Ks.of0 HF3.out)⟩

theorem owns_dn {w : World} {b c : Nat} {e : TypeId} {size n : Nat} {v : Value} {xs : List Value} (h : w.ownsRow c e size v n xs) (hb : b ≤ c) : w.ownsRow b e size v n xs := by
  refine ⟨h.1, ?_⟩
  rcases h.2 with h5 | ⟨g, cap, cur, h5, hg, r⟩
  · exact .inl h5
  · exact .inr ⟨g, cap, cur, h5, Nat.le_trans hb hg, r⟩

theorem mes_le (L : List Ent) (back : Bool) (tx ty : List (Int × Int)) : mesG L back tx ty ≤ 2 * (restG L back tx).length + (restG L back ty).length := by
  have h1 := potG_le L back tx
  have h2 := potG_le L back ty
  unfold mesG
  omega

theorem tail_back (L : List Ent) (id : Int) (n : Nat) (h : n ≤ (txt L id).length) : tailG L true id n = ((txt L id).take n).reverse := by
  unfold tailG txB
  rw [if_pos rfl, List.length_reverse, List.drop_reverse]
  congr 2
  omega
theorem tail_fore (L : List Ent) (id : Int) (i : Nat) (h : i ≤ (txt L id).length) : tailG L false id ((txt L id).length - i) = (txt L id).drop i := by
  unfold tailG txB
  rw [if_neg (by decide)]
  congr 1
  omega

/-- Two new readers and what is common to them. -/
theorem px_both {B : Nat} {w w2 w3 w4 : World} {pp tp p mb : Nat} {most : Int} {L : List Ent} {T : List KRow} {back : Bool} {R1 R2 : List Int} {v1 v2 : Value} {td1 td2 : List (Int × Int)} {e : Ending} (hp : Pq B w pp tp p mb most L T)
    (o1 : w2.ownsRow w.heap.size 102 2 v1 td1.length (td1.flatMap gvZ)) (g1 : GAll L td1) (r1 : restG L back td1 = R1) (f1 : Fr0 w w2)
    (o2 : w3.ownsRow w2.heap.size 102 2 v2 td2.length (td2.flatMap gvZ)) (g2 : GAll L td2) (r2 : restG L back td2 = R2) (f2 : Fr0 w2 w3) (h1 : R1.length ≤ 300) (h2 : R2.length ≤ 300) :
    Calls Tryd.prog 57 #[.agg #[.pointer (some ⟨pp, 0, none⟩), .bool back, v1], .agg #[.pointer (some ⟨pp, 0, none⟩), .bool back, v2]] w3 (KyPost B w pp tp p mb most L (.int .i64 (cpl R1 R2 : Nat))) := by
  subst r1 r2
  have hm := mes_le L back td1 td2
  have hs1 := Fr.size f1
  have hs2 := Fr.size f2
  have hB := hp.base
  have ox := f2.owns o1
  have F := Fr0.trans f1 f2
  refine (px_common (base := w.heap.size) (hp.kept0 F) ox (owns_dn o2 hs1) (fun k hk hk2 => ?_) hB (Nat.le_trans hs1 hs2) g1 g2 (by omega) (by omega)).mono ?_
  · have a1 := (o1.lt k hk).2
    have a2 := (o2.lt k hk2).1
    omega
  · rintro e w4 ⟨rfl, ⟨T4, h4⟩, hk⟩
    refine ⟨T4, rfl, h4, Ks.next (Ks.of0 F) hk (fun i hi e => ?_)⟩
    rcases e with e | e
    · have := (o1.lt i e).1; omega
    · have := (o2.lt i e).1; omega

set_option maxRecDepth 100000 in
set_option maxHeartbeats 4000000 in
theorem px_Before {B : Nat} {w : World} {pp tp p mb : Nat} {most : Int} {L : List Ent} {T : List KRow} (hp : Pq B w pp tp p mb most L T) {a b : Int} (ha : SigOk L a) (hb : SigOk L b) (la : (txt L a).length ≤ 300) (lb : (txt L b).length ≤ 300) (i j : Nat) (hi : i ≤ (txt L a).length) (hj : j ≤ (txt L b).length) :
    Calls Tryd.prog 45 #[.pointer (some ⟨pp, 0, none⟩), .int .i64 a, .int .i64 i, .int .i64 b, .int .i64 j] w (KyPost B w pp tp p mb most L (.tuple #[.int .i64 (csl (txt L a) (txt L b) i j : Nat), .nilIface])) := by
  have C := Lib.hid (px_within hp ha hb i j (by omega) (by omega) (by omega) (by omega))
  have CA := Lib.hid (fun (W : World) T' (hW : Pq B W pp tp p mb most L T') => px_new hW a i true hi (by omega) (fun h => ha.grp hW.dok (by omega)))
  have CB := Lib.hid (fun (W : World) T' (hW : Pq B W pp tp p mb most L T') => px_new hW b j true hj (by omega) (fun h => hb.grp hW.dok (by omega)))
  have CC := Lib.hid (fun (w1 w2 w3 : World) (T1 : List KRow) (v1 v2 : Value) (td1 td2 : List (Int × Int)) (hp1 : Pq B w1 pp tp p mb most L T1) o1 g1 r1 f1 o2 g2 r2 f2 => @px_both B w1 w2 w3 w3 pp tp p mb most L T1 true (tailG L true a i) (tailG L true b j) v1 v2 td1 td2 (.returned .nilIface) hp1 o1 g1 r1 f1 o2 g2 r2 f2 (by rw [tailG_len _ _ _ hi]; omega) (by rw [tailG_len _ _ _ hj]; omega))
  have HV : Hid (cpl (tailG L true a i) (tailG L true b j) = csl (txt L a) (txt L b) i j) := by
    show _ = _
    rw [tail_back L a i hi, tail_back L b j hj]
    rfl
  clear hp ha hb
  go_enter Tryd.func45, Tryd.ntmps45
  go_wp2_with fail
  refine C.out.mono ?_
  rintro e w1 ⟨T1, rfl, hp1, hx1⟩
  have HP1 := Lib.hid hp1
  have HX1 := Lib.hid hx1
  have CA1 := Lib.hid (CA.out _ _ hp1)
  clear hp1 hx1 C CA
  go_wp2_with fail
  refine CA1.out.mono ?_
  rintro e w2 ⟨v1, td1, rfl, o1, g1, r1, f1⟩
  have CB1 := Lib.hid (CB.out _ _ (HP1.out.kept0 f1))
  have CC1 := Lib.hid (fun w3 v2 td2 o2 g2 r2 f2 => CC.out w1 w2 w3 _ v1 v2 td1 td2 HP1.out o1 g1 r1 f1 o2 g2 r2 f2)
  clear o1 g1 r1 f1 CA1 CB CC
  go_wp2_with fail
  refine CB1.out.mono ?_
  rintro e w3 ⟨v2, td2, rfl, o2, g2, r2, f2⟩
  have CC2 := Lib.hid (CC1.out _ _ _ o2 g2 r2 f2)
  clear o2 g2 r2 f2 CB1 CC1
  go_wp2_with fail
  refine CC2.out.mono ?_
  rintro e w4 ⟨T4, rfl, hp4, hx4⟩
  have HP4 := Lib.hid hp4
  have HX4 := Lib.hid (Ks.trans HX1.out hx4)
  clear hp4 hx4 CC2
  rw [HV.out]
  go_wp2_with fail
  go_ret2
  exact ⟨T4, rfl, HP4.out, HX4.out⟩

set_option maxRecDepth 100000 in
set_option maxHeartbeats 4000000 in
theorem px_At {B : Nat} {w : World} {pp tp p mb : Nat} {most : Int} {L : List Ent} {T : List KRow} (hp : Pq B w pp tp p mb most L T) {a b : Int} (ha : SigOk L a) (hb : SigOk L b) (la : (txt L a).length ≤ 300) (lb : (txt L b).length ≤ 300) (i j : Nat) (hi : i ≤ (txt L a).length) (hj : j ≤ (txt L b).length) :
    Calls Tryd.prog 39 #[.pointer (some ⟨pp, 0, none⟩), .int .i64 a, .int .i64 i, .int .i64 b, .int .i64 j] w (KyPost B w pp tp p mb most L (.tuple #[.int .i64 (cpl ((txt L a).drop i) ((txt L b).drop j) : Nat), .nilIface])) := by
  have C := Lib.hid (px_within hp ha hb i j (by omega) (by omega) (by omega) (by omega))
  have CZA := Lib.hid (fun (W : World) T' (hW : Pq B W pp tp p mb most L T') => px_size hW a ha.kn)
  have CZB := Lib.hid (fun (W : World) T' (hW : Pq B W pp tp p mb most L T') => px_size hW b hb.kn)
  have CA := Lib.hid (fun (W : World) T' (hW : Pq B W pp tp p mb most L T') => px_new hW a ((txt L a).length - i) false (by omega) (by omega) (fun h => ha.grp hW.dok (by omega)))
  have CB := Lib.hid (fun (W : World) T' (hW : Pq B W pp tp p mb most L T') => px_new hW b ((txt L b).length - j) false (by omega) (by omega) (fun h => hb.grp hW.dok (by omega)))
  have CC := Lib.hid (fun (w1 w2 w3 : World) (T1 : List KRow) (v1 v2 : Value) (td1 td2 : List (Int × Int)) (hp1 : Pq B w1 pp tp p mb most L T1) o1 g1 r1 f1 o2 g2 r2 f2 => @px_both B w1 w2 w3 w3 pp tp p mb most L T1 false (tailG L false a ((txt L a).length - i)) (tailG L false b ((txt L b).length - j)) v1 v2 td1 td2 (.returned .nilIface) hp1 o1 g1 r1 f1 o2 g2 r2 f2 (by rw [tailG_len _ _ _ (by omega)]; omega) (by rw [tailG_len _ _ _ (by omega)]; omega))
  have HV : Hid (cpl (tailG L false a ((txt L a).length - i)) (tailG L false b ((txt L b).length - j)) = cpl ((txt L a).drop i) ((txt L b).drop j)) := by
    show _ = _
    rw [tail_fore L a i hi, tail_fore L b j hj]
  have q1 : IntKind.i64.wrap (((txt L a).length : Int) - (i : Int)) = (((txt L a).length - i : Nat) : Int) := by
    rw [show ((txt L a).length : Int) - (i : Int) = (((txt L a).length - i : Nat) : Int) by omega]; exact wrapI (by omega) (by omega)
  have q2 : IntKind.i64.wrap (((txt L b).length : Int) - (j : Int)) = (((txt L b).length - j : Nat) : Int) := by
    rw [show ((txt L b).length : Int) - (j : Int) = (((txt L b).length - j : Nat) : Int) by omega]; exact wrapI (by omega) (by omega)
  generalize (txt L a).length - i = n1 at *
  generalize (txt L b).length - j = n2 at *
  clear hp ha hb
  go_enter Tryd.func39, Tryd.ntmps39
  go_wp2_with fail
  refine C.out.mono ?_
  rintro e w1 ⟨T1, rfl, hp1, hx1⟩
  have HP1 := Lib.hid hp1
  have HX1 := Lib.hid hx1
  have CZ1 := Lib.hid (CZA.out _ _ hp1)
  clear hp1 hx1 C CZA
  go_wp2_with fail
  refine CZ1.out.mono ?_
  rintro e w1' ⟨rfl, f0⟩
  have HP1' := Lib.hid (HP1.out.kept0 f0)
  have HX1' := Lib.hid (Ks.trans HX1.out (Ks.of0 f0))
  have CA1 := Lib.hid (CA.out _ _ HP1'.out)
  clear f0 HP1 HX1 CZ1 CA
  go_wp2_with fail
  refine CA1.out.mono ?_
  rintro e w2 ⟨v1, td1, rfl, o1, g1, r1, f1⟩
  have CZ2 := Lib.hid (CZB.out _ _ (HP1'.out.kept0 f1))
  have CB1 := Lib.hid (fun W (hW : Fr0 w2 W) => CB.out _ _ (HP1'.out.kept0 (Fr0.trans f1 hW)))
  have CC1 := Lib.hid (fun W (hW : Fr0 w2 W) w3 v2 td2 o2 g2 r2 f2 => CC.out w1' W w3 _ v1 v2 td1 td2 HP1'.out (hW.owns o1) g1 r1 (Fr0.trans f1 hW) o2 g2 r2 f2)
  clear o1 g1 r1 f1 CA1 CB CC CZB
  go_wp2_with fail
  refine CZ2.out.mono ?_
  rintro e w2' ⟨rfl, f0⟩
  have CB2 := Lib.hid (CB1.out _ f0)
  have CC2 := Lib.hid (CC1.out _ f0)
  clear f0 CB1 CC1 CZ2
  go_wp2_with fail
  refine CB2.out.mono ?_
  rintro e w3 ⟨v2, td2, rfl, o2, g2, r2, f2⟩
  have CC3 := Lib.hid (CC2.out _ _ _ o2 g2 r2 f2)
  clear o2 g2 r2 f2 CB2 CC2
  go_wp2_with fail
  refine CC3.out.mono ?_
  rintro e w4 ⟨T4, rfl, hp4, hx4⟩
  have HP4 := Lib.hid hp4
  have HX4 := Lib.hid (Ks.trans HX1'.out hx4)
  clear hp4 hx4 CC3
  rw [HV.out]
  go_wp2_with fail
  go_ret2
  exact ⟨T4, rfl, HP4.out, HX4.out⟩

end Go.Proofs.YtodmpcnpedpheaaDoor

/- The rows as lists, and the table of all distances (plain). -/
set_option linter.unusedSimpArgs false
set_option linter.unusedVariables false
namespace Go.Proofs.YtodmpcnpedpheaaDoor

/-- A row: the least diagonal, and the offsets. -/
structure RowD where
  low : Int
  frm : List Int

def RowD.at (r : RowD) (d : Int) : Int := if 0 ≤ d - r.low ∧ d - r.low < r.frm.length then r.frm.getD (d - r.low).toNat 0 else NONE

/-- The row of a number of edits. -/
def rowF (A B : List Int) (e : Nat) : RowD := ⟨dlow A B e, (List.range (dhigh A B e - dlow A B e + 1).toNat).map fun (i : Nat) => atF A B e (dlow A B e + (i : Int))⟩

theorem atF_out {A B : List Int} (e : Nat) (d : Int) (h : ¬ (dlow A B e ≤ d ∧ d ≤ dhigh A B e)) : atF A B e d = NONE := by
  cases e with
  | zero => rw [atF.eq_1, if_neg h]
  | succ e =>
    cases e with
    | zero => rw [atF.eq_2, if_neg h]
    | succ e => rw [atF.eq_3, if_neg h]

theorem rowF_at (A B : List Int) (e : Nat) (d : Int) : (rowF A B e).at d = atF A B e d := by
  unfold RowD.at rowF
  dsimp only
  rw [List.length_map, List.length_range]
  by_cases h : dlow A B e ≤ d ∧ d ≤ dhigh A B e
  · rw [if_pos (by omega), List.getD_eq_getElem?_getD, List.getElem?_map, List.getElem?_range (by omega)]
    show atF A B e (dlow A B e + ((d - dlow A B e).toNat : Int)) = _
    rw [show dlow A B e + ((d - dlow A B e).toNat : Int) = d by omega]
  · rw [if_neg (by omega), atF_out e d h]

/-- A cell before equal letters are skipped. -/
def preF (A B : List Int) : Nat → Int → Int
  | 0, d => if d = (A.length : Int) - B.length then A.length else NONE
  | 1, d => stpF (atF A B 0 (d + 1)) (atF A B 0 (d - 1)) NONE d
  | e + 2, d => stpF (atF A B (e + 1) (d + 1)) (atF A B (e + 1) (d - 1)) (atF A B e d) d

theorem atF_pre {A B : List Int} (e : Nat) (d : Int) (h : dlow A B e ≤ d ∧ d ≤ dhigh A B e) : atF A B e d = sldF A B d (preF A B e d) := by
  cases e with
  | zero => rw [atF.eq_1, if_pos h]; rfl
  | succ e =>
    cases e with
    | zero => rw [atF.eq_2, if_pos h]; rfl
    | succ e => rw [atF.eq_3, if_pos h]; rfl

theorem preF_cell {A B : List Int} (hn : A.length ≤ 1152921504606846976) (e : Nat) (d : Int) : Cell A B e d (preF A B e d) := by
  cases e with
  | zero =>
    show Cell A B 0 d (if d = (A.length : Int) - B.length then (A.length : Int) else NONE)
    by_cases h : d = (A.length : Int) - B.length
    · rw [if_pos h]
      exact .inr ⟨A.length, B.length, rfl, h.symm, Nat.le_refl _, Nat.le_refl _, by rw [edp_endA A B (Nat.le_refl _)]; omega⟩
    · rw [if_neg h]
      exact .inl rfl
  | succ e =>
    cases e with
    | zero => exact stpF_cell hn (atF_cell hn 0 _) (atF_cell hn 0 _) (.inl rfl)
    | succ e => exact stpF_cell hn (atF_cell hn (e + 1) _) (atF_cell hn (e + 1) _) ((atF_cell hn e d).up (by omega))

/-- The program's way of skipping. -/
theorem sld_prog {A B : List Int} {e : Nat} {d x : Int} (h : Cell A B e d x) (hx : x ≠ NONE) :
    0 ≤ x ∧ x ≤ A.length ∧ 0 ≤ x - d ∧ x - d ≤ B.length ∧ sldF A B d x = x - max (min (min (csl A B x.toNat (x - d).toNat : Int) x) (x - d)) 0 := by
  rcases h with h | ⟨x1, y1, h1, h2, h3, h4, h5⟩
  · exact absurd h hx
  · subst h1
    have hl := csl_le A B x1 y1
    unfold sldF
    rw [if_neg hx, Int.toNat_natCast, show ((x1 : Int) - d).toNat = y1 by omega]
    omega

/-- The reference's table. -/
theorem edp_ref (A B : List Int) {i j : Nat} (hi : i < A.length) (hj : j < B.length) :
    (edp A B i j : Int) = if A.getD i 0 = B.getD j 0 then min (1 + min (edp A B (i + 1) j : Int) (edp A B i (j + 1))) (edp A B (i + 1) (j + 1)) else 1 + min (edp A B (i + 1) j : Int) (edp A B i (j + 1)) := by
  split
  · rename_i h
    rw [edp_match A B hi hj h]
    have h1 : edp A B (i + 1) (j + 1) ≤ 1 + edp A B (i + 1) j := by
      unfold edp; rw [drop_cons B hj]; exact ed_dropR _ _ _
    have h2 : edp A B (i + 1) (j + 1) ≤ 1 + edp A B i (j + 1) := by
      unfold edp; rw [drop_cons A hi]; exact ed_dropL _ _ _
    omega
  · rename_i h
    rw [edp_diff A B hi hj h]
    omega

theorem edp_all (A B : List Int) : edp A B 0 0 = ed A B := rfl

end Go.Proofs.YtodmpcnpedpheaaDoor

/- The rows of a comparison in memory; row.at, table.distance. -/
set_option linter.unusedSimpArgs false
set_option linter.unusedVariables false
namespace Go.Proofs.YtodmpcnpedpheaaDoor
open Go.RowKit

/-- A list of integers of the call's own. -/
def frmO (base : Nat) (W : World) (v : Value) (l : List Int) : Prop := W.ownsRow base 3 1 v l.length (l.map fun x => Value.int .i64 x)

/-- A row's cells. -/
def rwZ (p : RowD × Value) : List Value := [.int .i64 p.1.low, p.2]
theorem rwZ_len (g : List (RowD × Value)) : (g.flatMap rwZ).length = g.length * 2 := flat_len rwZ 2 g (fun _ _ => rfl)

/-- A table in memory. -/
structure TabD (base : Nat) (W : World) (tb pp : Nat) (a b n m : Int) (rs : List (RowD × Value)) (v : Value) : Prop where
  box : W.heap[tb]? = some (Obj.cells #[.pointer (some ⟨pp, 0, none⟩), .int .i64 a, .int .i64 b, .int .i64 n, .int .i64 m, v] 66 (0, 0))
  row : W.ownsRow base 88 2 v rs.length (rs.flatMap rwZ)
  each : ∀ p ∈ rs, frmO base W p.2 p.1.frm

theorem TabD.keptX {B mb base : Nat} {w w' : World} {tb pp : Nat} {a b n m : Int} {rs : List (RowD × Value)} {v : Value} (h : TabD base w tb pp a b n m rs v) (hf : Kx B mb w w') : TabD base w' tb pp a b n m rs v :=
  ⟨hf.cells _ _ _ _ h.box (by decide) id, Kx.owns hf h.row (by decide), fun p hp => Kx.owns hf (h.each p hp) (by decide)⟩
theorem TabD.kept0 {base : Nat} {w w' : World} {tb pp : Nat} {a b n m : Int} {rs : List (RowD × Value)} {v : Value} (h : TabD base w tb pp a b n m rs v) (hf : Fr0 w w') : TabD base w' tb pp a b n m rs v :=
  ⟨hf.kept h.box, hf.owns h.row, fun p hp => hf.owns (h.each p hp)⟩

theorem cells6t {w : World} {b : Nat} {x0 x1 x2 x3 x4 x5 : Value} {t : TypeId} (h : w.heap[b]? = some (.cells #[x0, x1, x2, x3, x4, x5] t (0, 0))) :
    w.cell? ⟨b, 0, none⟩ = some x0 ∧ w.cell? ⟨b, 1, none⟩ = some x1 ∧ w.cell? ⟨b, 2, none⟩ = some x2 ∧ w.cell? ⟨b, 3, none⟩ = some x3 ∧ w.cell? ⟨b, 4, none⟩ = some x4 ∧ w.cell? ⟨b, 5, none⟩ = some x5 ∧ b < w.heap.size ∧ ∀ o, w.frozen? ⟨b, o, none⟩ = false :=
  ⟨by rw [cell_of_block h]; rfl, by rw [cell_of_block h]; rfl, by rw [cell_of_block h]; rfl, by rw [cell_of_block h]; rfl, by rw [cell_of_block h]; rfl, by rw [cell_of_block h]; rfl, lt_of_block h, fun o => by simp [World.frozen?, h]⟩

set_option maxRecDepth 100000 in
set_option maxHeartbeats 4000000 in
theorem df_at {base : Nat} {w : World} {r : RowD} {v : Value} (h : frmO base w v r.frm) (hn : r.frm.length ≤ 1000000) (hl : -1000000 ≤ r.low) (hl2 : r.low ≤ 1000000) (d : Int) (hd : -1000000 ≤ d) (hd2 : d ≤ 1000000) :
    Calls Tryd.prog 31 #[.agg #[.int .i64 r.low, v], .int .i64 d] w fun e w' => e = .returned (.int .i64 (r.at d)) ∧ Fr0 w w' := by
  have h' := h
  unfold frmO at h'
  obtain ⟨va, vc, rfl⟩ := owns_form h'
  have q1' : IntKind.i64.wrap (d - r.low) = d - r.low := wrapI (by omega) (by omega)
  obtain ⟨R, hR⟩ : ∃ R, r.at d = R := ⟨_, rfl⟩
  have HR := Lib.hid hR
  rw [hR]
  unfold RowD.at at hR
  obtain ⟨x, hx⟩ : ∃ x, d - r.low = x := ⟨_, rfl⟩
  have q1 : IntKind.i64.wrap (d - r.low) = x := by rw [q1', hx]
  rw [hx] at hR
  have hxb : x ≤ 2000000 := by omega
  clear q1'
  by_cases c0 : 0 ≤ x
  · have q2 : decide (0 ≤ x) = true := decide_eq_true c0
    by_cases c1 : x < r.frm.length
    · have q3 : decide (x < (r.frm.length : Int)) = true := decide_eq_true c1
      rw [if_pos ⟨c0, c1⟩] at hR
      have hne : r.frm ≠ [] := fun e => by rw [e] at c1; simp at c1; omega
      obtain ⟨g, cap, hv, hg, hrow, h1, h2⟩ := rowC_of_own h hne
      cases hv
      obtain ⟨j, hj⟩ : ∃ j : Nat, x = j := ⟨x.toNat, by omega⟩
      have hjl : j < r.frm.length := by omega
      have x0 := hrow.2 j hjl
      have hlt := hrow.1
      rw [hj, Int.toNat_natCast, List.getD_eq_getElem?_getD, List.getElem?_eq_getElem hjl] at hR
      simp only [Option.getD_some] at hR
      rw [hR] at x0
      rw [hj] at q1 q2 q3
      have q4 : (j : Int) < (r.frm.length : Int) := by omega
      have q5 : (0 : Int) ≤ (j : Int) := by omega
      clear h h' hrow HR hR c0 c1 hj hne hjl hx
      generalize r.frm.length = n at *
      generalize r.low = low at *
      go_enter Tryd.func31, Tryd.ntmps31
      go_wp2_with fail
      go_ret
      exact ⟨rfl, (Fr0.refl w).alloc _⟩
    · have q3 : decide (x < (r.frm.length : Int)) = false := decide_eq_false c1
      rw [if_neg (fun e => c1 e.2)] at hR
      generalize r.frm.length = n at *
      generalize r.low = low at *
      have hR' : R = 1152921504606846977 := hR.symm
      clear h h' HR hR c0 c1 hx
      subst hR'
      go_enter Tryd.func31, Tryd.ntmps31
      go_wp2_with fail
      go_ret
      exact ⟨rfl, (Fr0.refl w).alloc _⟩
  · have q2 : decide (0 ≤ x) = false := decide_eq_false c0
    rw [if_neg (fun e => c0 e.1)] at hR
    generalize r.frm.length = n at *
    generalize r.low = low at *
    have hR' : R = 1152921504606846977 := hR.symm
    clear h h' HR hR c0 hx
    subst hR'
    go_enter Tryd.func31, Tryd.ntmps31
    go_wp2_with fail
    go_ret
    exact ⟨rfl, (Fr0.refl w).alloc _⟩

set_option maxRecDepth 100000 in
theorem df_distance {base : Nat} {w : World} {tb pp : Nat} {a b n m : Int} {rs : List (RowD × Value)} {v : Value} (h : TabD base w tb pp a b n m rs v) (h1 : 1 ≤ rs.length) (h2 : rs.length ≤ 1000000) :
    Calls Tryd.prog 20 #[.pointer (some ⟨tb, 0, none⟩)] w fun e w' => e = .returned (.int .i64 ((rs.length - 1 : Nat) : Int)) ∧ w' = w := by
  obtain ⟨va, vc, rfl⟩ := owns_form h.row
  obtain ⟨c0, c1, c2, c3, c4, c5, lt, cf⟩ := cells6t h.box
  have q1 : IntKind.i64.wrap ((rs.length : Int) - 1) = ((rs.length - 1 : Nat) : Int) := by rw [show (rs.length : Int) - 1 = ((rs.length - 1 : Nat) : Int) by omega]; exact wrapI (by omega) (by omega)
  generalize rs.length - 1 = k at *
  clear h
  go_enter Tryd.func20, Tryd.ntmps20
  go_wp2_with fail
  go_ret
  exact ⟨rfl, rfl⟩

end Go.Proofs.YtodmpcnpedpheaaDoor

/- The walks of avl.level, avl.join and avl.Join. -/
import Derived.Test.YtclpndigmidjkaaGreatAvl1
set_option linter.unusedSimpArgs false
set_option linter.unusedVariables false
namespace Go.Proofs.YtclpndigmidjkaaGreat
open Go.RowKit

/-- The depth of what level returns. -/
def levD (da db d : Int) : Prop := max da db ≤ d ∧ d ≤ max da db + 1 ∧ (-1 ≤ da - db → da - db ≤ 1 → d = 1 + max da db)

theorem Room.depth {B : Nat} {w : World} {p mb : Nat} {most : Int} {L : List Ent} {n : Nat} (h : Room B w p mb most L n) {a : Int} {s : List Int} {d : Int} (ha : Bal L a s d) : 0 ≤ d ∧ d ≤ 1048576 := by
  have := h.sok.at a ha.known
  rw [ha.depth] at this
  have := h.big
  omega

set_option maxRecDepth 100000 in
set_option maxHeartbeats 2000000 in
theorem avl_level_a {B : Nat} {w : World} {p mb : Nat} {most : Int} {L : List Ent} (hR : Room B w p mb most L 3) {a b : Int} {s t : List Int} {da db : Int} (ha : Bal L a s da) (hb : Bal L b t db) (hA : da = db + 2) (hl : (s.length : Int) + t.length ≤ 1152921504606846976) :
    Calls Tryz.prog 144 #[.pointer (some ⟨p, 0, none⟩), .int .i64 a, .int .i64 b] w (APost B w p mb most L (s ++ t) (fun d k => levD da db d ∧ k ≤ 3)) := by
  have CDA := Lib.hid (fun W (hW : Fr0 w W) => sto_Depth (hR.st.kept0 hW) a ha.known)
  rw [ha.depth] at CDA
  have CDB := Lib.hid (fun W (hW : Fr0 w W) => sto_Depth (hR.st.kept0 hW) b hb.known)
  rw [hb.depth] at CDB
  obtain ⟨a0, a1⟩ := hR.depth ha
  obtain ⟨b0, b1⟩ := hR.depth hb
  have HR := Lib.hid hR
  have HA := Lib.hid ha
  have HB := Lib.hid hb
  clear hR ha hb
  obtain ⟨l, r, tl, tr, dl, dr, hru, hbl, hbr, hst, hdd, hd1, hd2⟩ := bal_parts HR.out.dok HA.out (by omega)
  have CP := Lib.hid (fun W (hW : Fr0 w W) => avl_parts (HR.out.st.kept0 hW) a l r dl dr HA.out.known HA.out.ne hru hbl.known hbr.known hbl.depth hbr.depth)
  have hlen : (s.length : Int) = tl.length + tr.length := by rw [hst, List.length_append]; omega
  have d1 : decide (db + 1 < da) = true := decide_eq_true (by omega)
  by_cases hge : dr ≤ dl
  · have CT := Lib.hid (fun W (hW : Fr0 w W) => avl_two ((HR.out.kept0 hW).less (by omega)) hbl hbr HB.out (by omega) (by omega) (by omega) (by omega) (by omega))
    have HST := Lib.hid hst
    have HHA := Lib.hid (And.intro hA hdd)
    clear hru hbl hbr hst hA hdd hlen
    go_enter Tryz.func144, Tryz.ntmps144
    go_wp2_with fail
    refine (CDA.out _ (Fr0.refl w)).mono ?_
    rintro e w1 ⟨rfl, f1⟩
    go_wp2_with fail
    refine (CDB.out _ f1).mono ?_
    rintro e w2 ⟨rfl, f2⟩
    have F2 := f1.trans f2
    clear f1 f2
    go_wp2_with fail
    refine (CP.out _ F2).mono ?_
    rintro e w3 ⟨rfl, f3⟩
    have F3 := F2.trans f3
    clear f3
    go_wp2_with fail
    refine (CT.out _ F3).mono ?_
    rintro e wz hx
    obtain ⟨id, rfl⟩ := hx.ret
    have HX : Hid (APost B w p mb most L (s ++ t) (fun d k => levD da db d ∧ k ≤ 3) (.returned (.tuple #[.int .i64 id, .nilIface])) wz) := (hx.before F3).mono (by rw [HST.out]; simp) (fun d k hd => by have := HHA.out; unfold levD; omega)
    clear hx
    go_wp2_with fail
    go_ret2
    exact HX.out
  · obtain ⟨l2, r2, tl2, tr2, dl2, dr2, hru2, hbl2, hbr2, hst2, hdd2, hd12, hd22⟩ := bal_parts HR.out.dok hbr (by omega)
    have CQ := Lib.hid (fun W (hW : Fr0 w W) => avl_parts (HR.out.st.kept0 hW) r l2 r2 dl2 dr2 hbr.known hbr.ne hru2 hbl2.known hbr2.known hbl2.depth hbr2.depth)
    have hlen2 : (tr.length : Int) = tl2.length + tr2.length := by rw [hst2, List.length_append]; omega
    have CT := Lib.hid (fun W (hW : Fr0 w W) => avl_four (HR.out.kept0 hW) hbl hbl2 hbr2 HB.out (by omega) (by omega) (by omega) (by omega) (by omega) (by omega) (by omega))
    have HST := Lib.hid hst
    have HST2 := Lib.hid hst2
    have HHA := Lib.hid (And.intro hA (And.intro hdd hdd2))
    have d2 : decide (dr ≤ dl) = false := decide_eq_false hge
    clear hru hbl hbr hst hA hdd hlen hru2 hbl2 hbr2 hst2 hdd2 hlen2
    go_enter Tryz.func144, Tryz.ntmps144
    go_wp2_with fail
    refine (CDA.out _ (Fr0.refl w)).mono ?_
    rintro e w1 ⟨rfl, f1⟩
    go_wp2_with fail
    refine (CDB.out _ f1).mono ?_
    rintro e w2 ⟨rfl, f2⟩
    have F2 := f1.trans f2
    clear f1 f2
    go_wp2_with fail
    refine (CP.out _ F2).mono ?_
    rintro e w3 ⟨rfl, f3⟩
    have F3 := F2.trans f3
    clear f3
    go_wp2_with fail
    refine (CQ.out _ F3).mono ?_
    rintro e w4 ⟨rfl, f4⟩
    have F4 := F3.trans f4
    clear f4
    go_wp2_with fail
    refine (CT.out _ F4).mono ?_
    rintro e wz hx
    obtain ⟨id, rfl⟩ := hx.ret
    have HX : Hid (APost B w p mb most L (s ++ t) (fun d k => levD da db d ∧ k ≤ 3) (.returned (.tuple #[.int .i64 id, .nilIface])) wz) := (hx.before F4).mono (by rw [HST.out, HST2.out]; simp) (fun d k hd => by have := HHA.out; unfold levD; omega)
    clear hx
    go_wp2_with fail
    go_ret2
    exact HX.out

set_option maxRecDepth 100000 in
set_option maxHeartbeats 2000000 in
theorem avl_level_b {B : Nat} {w : World} {p mb : Nat} {most : Int} {L : List Ent} (hR : Room B w p mb most L 3) {a b : Int} {s t : List Int} {da db : Int} (ha : Bal L a s da) (hb : Bal L b t db) (hA : db = da + 2) (hl : (s.length : Int) + t.length ≤ 1152921504606846976) :
    Calls Tryz.prog 144 #[.pointer (some ⟨p, 0, none⟩), .int .i64 a, .int .i64 b] w (APost B w p mb most L (s ++ t) (fun d k => levD da db d ∧ k ≤ 3)) := by
  have CDA := Lib.hid (fun W (hW : Fr0 w W) => sto_Depth (hR.st.kept0 hW) a ha.known)
  rw [ha.depth] at CDA
  have CDB := Lib.hid (fun W (hW : Fr0 w W) => sto_Depth (hR.st.kept0 hW) b hb.known)
  rw [hb.depth] at CDB
  obtain ⟨a0, a1⟩ := hR.depth ha
  obtain ⟨b0, b1⟩ := hR.depth hb
  have HR := Lib.hid hR
  have HA := Lib.hid ha
  have HB := Lib.hid hb
  clear hR ha hb
  obtain ⟨l, r, tl, tr, dl, dr, hru, hbl, hbr, hst, hdd, hd1, hd2⟩ := bal_parts HR.out.dok HB.out (by omega)
  have CP := Lib.hid (fun W (hW : Fr0 w W) => avl_parts (HR.out.st.kept0 hW) b l r dl dr HB.out.known HB.out.ne hru hbl.known hbr.known hbl.depth hbr.depth)
  have hlen : (t.length : Int) = tl.length + tr.length := by rw [hst, List.length_append]; omega
  have d0 : decide (db + 1 < da) = false := decide_eq_false (by omega)
  have d1 : decide (da + 1 < db) = true := decide_eq_true (by omega)
  by_cases hge : dr < dl
  · obtain ⟨l2, r2, tl2, tr2, dl2, dr2, hru2, hbl2, hbr2, hst2, hdd2, hd12, hd22⟩ := bal_parts HR.out.dok hbl (by omega)
    have CQ := Lib.hid (fun W (hW : Fr0 w W) => avl_parts (HR.out.st.kept0 hW) l l2 r2 dl2 dr2 hbl.known hbl.ne hru2 hbl2.known hbr2.known hbl2.depth hbr2.depth)
    have hlen2 : (tl.length : Int) = tl2.length + tr2.length := by rw [hst2, List.length_append]; omega
    have CT := Lib.hid (fun W (hW : Fr0 w W) => avl_four (HR.out.kept0 hW) HA.out hbl2 hbr2 hbr (by omega) (by omega) (by omega) (by omega) (by omega) (by omega) (by omega))
    have HST := Lib.hid hst
    have HST2 := Lib.hid hst2
    have HHA := Lib.hid (And.intro hA (And.intro hdd hdd2))
    clear hru hbl hbr hst hA hdd hlen hru2 hbl2 hbr2 hst2 hdd2 hlen2
    go_enter Tryz.func144, Tryz.ntmps144
    go_wp2_with fail
    refine (CDA.out _ (Fr0.refl w)).mono ?_
    rintro e w1 ⟨rfl, f1⟩
    go_wp2_with fail
    refine (CDB.out _ f1).mono ?_
    rintro e w2 ⟨rfl, f2⟩
    have F2 := f1.trans f2
    clear f1 f2
    go_wp2_with fail
    refine (CP.out _ F2).mono ?_
    rintro e w3 ⟨rfl, f3⟩
    have F3 := F2.trans f3
    clear f3
    go_wp2_with fail
    refine (CQ.out _ F3).mono ?_
    rintro e w4 ⟨rfl, f4⟩
    have F4 := F3.trans f4
    clear f4
    go_wp2_with fail
    refine (CT.out _ F4).mono ?_
    rintro e wz hx
    obtain ⟨id, rfl⟩ := hx.ret
    have HX : Hid (APost B w p mb most L (s ++ t) (fun d k => levD da db d ∧ k ≤ 3) (.returned (.tuple #[.int .i64 id, .nilIface])) wz) := (hx.before F4).mono (by rw [HST.out, HST2.out]; simp) (fun d k hd => by have := HHA.out; unfold levD; omega)
    clear hx
    go_wp2_with fail
    go_ret2
    exact HX.out
  · have C1 := Lib.hid (fun W (hW : Fr0 w W) => avl_pair ((HR.out.kept0 hW).less (by omega)) HA.out hbl (by omega) (by omega) (by omega))
    have HST := Lib.hid hst
    have HBR := Lib.hid hbr
    have HHA := Lib.hid (And.intro hA hdd)
    have d2 : decide (dr < dl) = false := decide_eq_false hge
    have HL := Lib.hid hlen
    clear hru hbl hbr hst hA hdd hlen
    go_enter Tryz.func144, Tryz.ntmps144
    go_wp2_with fail
    refine (CDA.out _ (Fr0.refl w)).mono ?_
    rintro e w1 ⟨rfl, f1⟩
    go_wp2_with fail
    refine (CDB.out _ f1).mono ?_
    rintro e w2 ⟨rfl, f2⟩
    have F2 := f1.trans f2
    clear f1 f2
    go_wp2_with fail
    refine (CP.out _ F2).mono ?_
    rintro e w3 ⟨rfl, f3⟩
    have F3 := F2.trans f3
    clear f3
    go_wp2_with fail
    refine (C1.out _ F3).mono ?_
    rintro e wz ⟨L1, x, dx, kx, rfl, hS1, hK1, g, bb, hdx, hkx⟩
    subst hdx
    have C2 := Lib.hid (avl_pair ((HR.out.kept0 F3).next hS1 hK1 g (by omega)) bb (g.bal HR.out.dok HBR.out) (by have := HHA.out; omega) (by have := HHA.out; omega) (by have := HL.out; rw [List.length_append]; omega))
    have HK := Lib.hid hK1
    have HG := Lib.hid g
    clear hS1 hK1 g bb C1
    go_wp2_with fail
    refine C2.out.mono ?_
    rintro e w5 hx
    obtain ⟨id, rfl⟩ := hx.ret
    have HX : Hid (APost B w p mb most L (s ++ t) (fun d k => levD da db d ∧ k ≤ 3) (.returned (.tuple #[.int .i64 id, .nilIface])) w5) := (APost.before F3 (APost.next (E := fun d k => d = 1 + max (1 + max da dl) dr ∧ k ≤ 3) HK.out HG.out hx (fun d k h => ⟨h.1, by omega⟩))).mono (by rw [HST.out]; simp) (fun d k hd => by have := HHA.out; unfold levD; omega)
    clear hx C2
    go_wp2_with fail
    go_ret2
    exact HX.out

set_option maxRecDepth 100000 in
set_option maxHeartbeats 2000000 in
theorem avl_level_c {B : Nat} {w : World} {p mb : Nat} {most : Int} {L : List Ent} (hR : Room B w p mb most L 3) {a b : Int} {s t : List Int} {da db : Int} (ha : Bal L a s da) (hb : Bal L b t db) (hA : -1 ≤ da - db ∧ da - db ≤ 1) (hl : (s.length : Int) + t.length ≤ 1152921504606846976) :
    Calls Tryz.prog 144 #[.pointer (some ⟨p, 0, none⟩), .int .i64 a, .int .i64 b] w (APost B w p mb most L (s ++ t) (fun d k => levD da db d ∧ k ≤ 3)) := by
  have CDA := Lib.hid (fun W (hW : Fr0 w W) => sto_Depth (hR.st.kept0 hW) a ha.known)
  rw [ha.depth] at CDA
  have CDB := Lib.hid (fun W (hW : Fr0 w W) => sto_Depth (hR.st.kept0 hW) b hb.known)
  rw [hb.depth] at CDB
  obtain ⟨a0, a1⟩ := hR.depth ha
  obtain ⟨b0, b1⟩ := hR.depth hb
  have HR := Lib.hid hR
  have HA := Lib.hid ha
  have HB := Lib.hid hb
  clear hR ha hb
  have CT := Lib.hid (fun W (hW : Fr0 w W) => avl_pair ((HR.out.kept0 hW).less (by omega)) HA.out HB.out hA.1 hA.2 hl)
  have d0 : decide (db + 1 < da) = false := decide_eq_false (by omega)
  have d1 : decide (da + 1 < db) = false := decide_eq_false (by omega)
  have HHA := Lib.hid hA
  clear hA
  go_enter Tryz.func144, Tryz.ntmps144
  go_wp2_with fail
  refine (CDA.out _ (Fr0.refl w)).mono ?_
  rintro e w1 ⟨rfl, f1⟩
  go_wp2_with fail
  refine (CDB.out _ f1).mono ?_
  rintro e w2 ⟨rfl, f2⟩
  have F2 := f1.trans f2
  clear f1 f2
  go_wp2_with fail
  refine (CT.out _ F2).mono ?_
  rintro e wz hx
  obtain ⟨id, rfl⟩ := hx.ret
  have HX : Hid (APost B w p mb most L (s ++ t) (fun d k => levD da db d ∧ k ≤ 3) (.returned (.tuple #[.int .i64 id, .nilIface])) wz) := (hx.before F2).mono (rfl) (fun d k hd => by have := HHA.out; unfold levD; omega)
  clear hx
  go_wp2_with fail
  go_ret2
  exact HX.out

theorem avl_level {B : Nat} {w : World} {p mb : Nat} {most : Int} {L : List Ent} (hR : Room B w p mb most L 3) {a b : Int} {s t : List Int} {da db : Int} (ha : Bal L a s da) (hb : Bal L b t db) (h1 : -2 ≤ da - db) (h2 : da - db ≤ 2) (hl : (s.length : Int) + t.length ≤ 1152921504606846976) :
    Calls Tryz.prog 144 #[.pointer (some ⟨p, 0, none⟩), .int .i64 a, .int .i64 b] w (APost B w p mb most L (s ++ t) (fun d k => levD da db d ∧ k ≤ 3)) := by
  by_cases h : da = db + 2
  · exact avl_level_a hR ha hb h hl
  · by_cases k : db = da + 2
    · exact avl_level_b hR ha hb k hl
    · exact avl_level_c hR ha hb (by omega) hl

end Go.Proofs.YtclpndigmidjkaaGreat

/- The walks of avl.join and avl.Join. -/
import Derived.Test.YtclpndigmidjkaaGreatAvl2
set_option linter.unusedSimpArgs false
set_option linter.unusedVariables false
namespace Go.Proofs.YtclpndigmidjkaaGreat
open Go.RowKit

/-- How many rules join makes at most. -/
def joinN (da db : Int) : Nat := 3 * (max (da - db) (db - da) - 1).toNat + 1
/-- The depth of what join returns. -/
def joinD (da db d : Int) : Prop := max da db ≤ d ∧ d ≤ max da db + 1

set_option maxRecDepth 100000 in
set_option maxHeartbeats 2000000 in
theorem avl_join : ∀ (n : Nat) (B : Nat) (w : World) (p mb : Nat) (most : Int) (L : List Ent) (a b : Int) (s t : List Int) (da db : Int), (da + db).toNat < n → Room B w p mb most L (joinN da db) → Bal L a s da → Bal L b t db → (s.length : Int) + t.length ≤ 1152921504606846976 →
    Calls Tryz.prog 132 #[.pointer (some ⟨p, 0, none⟩), .int .i64 a, .int .i64 b] w (APost B w p mb most L (s ++ t) (fun d k => joinD da db d ∧ k ≤ joinN da db)) := by
  intro n
  induction n with
  | zero => intro B w p mb most L a b s t da db h; omega
  | succ n ih =>
  intro B w p mb most L a b s t da db hn hR ha hb hl
  have CDA := Lib.hid (fun W (hW : Fr0 w W) => sto_Depth (hR.st.kept0 hW) a ha.known)
  rw [ha.depth] at CDA
  have CDB := Lib.hid (fun W (hW : Fr0 w W) => sto_Depth (hR.st.kept0 hW) b hb.known)
  rw [hb.depth] at CDB
  obtain ⟨a0, a1⟩ := hR.depth ha
  obtain ⟨b0, b1⟩ := hR.depth hb
  have HR := Lib.hid hR
  have HA := Lib.hid ha
  have HB := Lib.hid hb
  have IH := Lib.hid ih
  clear hR ha hb ih
  by_cases hA : db + 1 < da
  · obtain ⟨l, r, tl, tr, dl, dr, hru, hbl, hbr, hst, hdd, hd1, hd2⟩ := bal_parts HR.out.dok HA.out (by omega)
    have CP := Lib.hid (fun W (hW : Fr0 w W) => avl_parts (HR.out.st.kept0 hW) a l r dl dr HA.out.known HA.out.ne hru hbl.known hbr.known hbl.depth hbr.depth)
    have hlen : (s.length : Int) = tl.length + tr.length := by rw [hst, List.length_append]; omega
    have q1 := HR.out.depth hbr
    have hN : joinN dr db + 3 ≤ joinN da db := by unfold joinN; omega
    have CJ := Lib.hid (fun W (hW : Fr0 w W) => IH.out B W p mb most L r b tr t dr db (by omega) ((HR.out.kept0 hW).less (by omega)) hbr HB.out (by omega))
    have HST := Lib.hid hst
    have HBL := Lib.hid hbl
    have HDD := Lib.hid hdd
    have HL := Lib.hid hlen
    have HN := Lib.hid hN
    have d1 : decide (db + 1 < da) = true := decide_eq_true hA
    clear hru hbl hbr hst hdd hlen IH hN
    go_enter Tryz.func132, Tryz.ntmps132
    go_wp2_with fail
    refine (CDA.out _ (Fr0.refl w)).mono ?_
    rintro e w1 ⟨rfl, f1⟩
    go_wp2_with fail
    refine (CDB.out _ f1).mono ?_
    rintro e w2 ⟨rfl, f2⟩
    have F2 := f1.trans f2
    clear f1 f2
    go_wp2_with fail
    refine (CP.out _ F2).mono ?_
    rintro e w3 ⟨rfl, f3⟩
    have F3 := F2.trans f3
    clear f3
    go_wp2_with fail
    refine (CJ.out _ F3).mono ?_
    rintro e w4 ⟨L1, x, dx, kx, rfl, hS1, hK1, g, bb, ⟨hx1, hx2⟩, hkx⟩
    have C2 := Lib.hid (avl_level ((HR.out.kept0 F3).next hS1 hK1 g (by have := HN.out; omega)) (g.bal HR.out.dok HBL.out) bb (by have := HDD.out; omega) (by have := HDD.out; omega) (by have := HL.out; rw [List.length_append]; omega))
    have HK := Lib.hid hK1
    have HG := Lib.hid g
    clear hS1 hK1 g bb CJ
    go_wp2_with fail
    refine C2.out.mono ?_
    rintro e w5 hx
    obtain ⟨id, rfl⟩ := hx.ret
    have HX : Hid (APost B w p mb most L (s ++ t) (fun d k => joinD da db d ∧ k ≤ joinN da db) (.returned (.tuple #[.int .i64 id, .nilIface])) w5) := (APost.before F3 (APost.next (E := fun d k => levD dl dx d ∧ k ≤ joinN dr db + 3) HK.out HG.out hx (fun d k h => ⟨h.1, by omega⟩))).mono (by rw [HST.out]; simp) (fun d k hd => by have := HDD.out; have := HN.out; have := hd.1; unfold levD at this; refine ⟨⟨by omega, by omega⟩, by omega⟩)
    clear hx C2
    go_wp2_with fail
    go_ret2
    exact HX.out
  · have d0 : decide (db + 1 < da) = false := decide_eq_false hA
    by_cases hA' : da + 1 < db
    · obtain ⟨l, r, tl, tr, dl, dr, hru, hbl, hbr, hst, hdd, hd1, hd2⟩ := bal_parts HR.out.dok HB.out (by omega)
      have CP := Lib.hid (fun W (hW : Fr0 w W) => avl_parts (HR.out.st.kept0 hW) b l r dl dr HB.out.known HB.out.ne hru hbl.known hbr.known hbl.depth hbr.depth)
      have hlen : (t.length : Int) = tl.length + tr.length := by rw [hst, List.length_append]; omega
      have q1 := HR.out.depth hbl
      have hN : joinN da dl + 3 ≤ joinN da db := by unfold joinN; omega
      have CJ := Lib.hid (fun W (hW : Fr0 w W) => IH.out B W p mb most L a l s tl da dl (by omega) ((HR.out.kept0 hW).less (by omega)) HA.out hbl (by omega))
      have HST := Lib.hid hst
      have HBR := Lib.hid hbr
      have HDD := Lib.hid hdd
      have HL := Lib.hid hlen
      have HN := Lib.hid hN
      have d1 : decide (da + 1 < db) = true := decide_eq_true hA'
      clear hru hbl hbr hst hdd hlen IH hN
      go_enter Tryz.func132, Tryz.ntmps132
      go_wp2_with fail
      refine (CDA.out _ (Fr0.refl w)).mono ?_
      rintro e w1 ⟨rfl, f1⟩
      go_wp2_with fail
      refine (CDB.out _ f1).mono ?_
      rintro e w2 ⟨rfl, f2⟩
      have F2 := f1.trans f2
      clear f1 f2
      go_wp2_with fail
      refine (CP.out _ F2).mono ?_
      rintro e w3 ⟨rfl, f3⟩
      have F3 := F2.trans f3
      clear f3
      go_wp2_with fail
      refine (CJ.out _ F3).mono ?_
      rintro e w4 ⟨L1, x, dx, kx, rfl, hS1, hK1, g, bb, ⟨hx1, hx2⟩, hkx⟩
      have C2 := Lib.hid (avl_level ((HR.out.kept0 F3).next hS1 hK1 g (by have := HN.out; omega)) bb (g.bal HR.out.dok HBR.out) (by have := HDD.out; omega) (by have := HDD.out; omega) (by have := HL.out; rw [List.length_append]; omega))
      have HK := Lib.hid hK1
      have HG := Lib.hid g
      clear hS1 hK1 g bb CJ
      go_wp2_with fail
      refine C2.out.mono ?_
      rintro e w5 hx
      obtain ⟨id, rfl⟩ := hx.ret
      have HX : Hid (APost B w p mb most L (s ++ t) (fun d k => joinD da db d ∧ k ≤ joinN da db) (.returned (.tuple #[.int .i64 id, .nilIface])) w5) := (APost.before F3 (APost.next (E := fun d k => levD dx dr d ∧ k ≤ joinN da dl + 3) HK.out HG.out hx (fun d k h => ⟨h.1, by omega⟩))).mono (by rw [HST.out]; simp) (fun d k hd => by have := HDD.out; have := HN.out; have := hd.1; unfold levD at this; refine ⟨⟨by omega, by omega⟩, by omega⟩)
      clear hx C2
      go_wp2_with fail
      go_ret2
      exact HX.out
    · have d1 : decide (da + 1 < db) = false := decide_eq_false hA'
      have CT := Lib.hid (fun W (hW : Fr0 w W) => avl_pair ((HR.out.kept0 hW).less (by unfold joinN; omega)) HA.out HB.out (by omega) (by omega) hl)
      clear IH
      go_enter Tryz.func132, Tryz.ntmps132
      go_wp2_with fail
      refine (CDA.out _ (Fr0.refl w)).mono ?_
      rintro e w1 ⟨rfl, f1⟩
      go_wp2_with fail
      refine (CDB.out _ f1).mono ?_
      rintro e w2 ⟨rfl, f2⟩
      have F2 := f1.trans f2
      clear f1 f2
      go_wp2_with fail
      refine (CT.out _ F2).mono ?_
      rintro e w5 hx
      obtain ⟨id, rfl⟩ := hx.ret
      have HX : Hid (APost B w p mb most L (s ++ t) (fun d k => joinD da db d ∧ k ≤ joinN da db) (.returned (.tuple #[.int .i64 id, .nilIface])) w5) := (hx.before F2).mono rfl (fun d k hd => by refine ⟨⟨by omega, by omega⟩, by unfold joinN; omega⟩)
      clear hx
      go_wp2_with fail
      go_ret2
      exact HX.out

/-- A balanced ID of a text, or 0 for the empty text. -/
structure BalZ (L : List Ent) (id : Int) (t : List Int) (d : Int) : Prop where
  known : isKnown L id
  text : txt L id = t
  even : (entAt L id).even = true
  depth : (entAt L id).depth = d

theorem BalZ.bal {L : List Ent} {id : Int} {t : List Int} {d : Int} (h : BalZ L id t d) (h0 : id ≠ 0) : Bal L id t d := ⟨h.known, h0, h.text, h.even, h.depth⟩
theorem Bal.z {L : List Ent} {id : Int} {t : List Int} {d : Int} (h : Bal L id t d) : BalZ L id t d := ⟨h.known, h.text, h.even, h.depth⟩
theorem BalZ.zero (L : List Ent) : BalZ L 0 [] 0 := ⟨⟨by omega, by omega⟩, rfl, rfl, rfl⟩
theorem BalZ.of0 {L : List Ent} {id : Int} {t : List Int} {d : Int} (h : BalZ L id t d) (h0 : id = 0) : t = [] ∧ d = 0 := by
  subst h0
  exact ⟨h.text.symm, h.depth.symm⟩
theorem BalZ.more {L : List Ent} (h : DOk L) {id : Int} {t : List Int} {d : Int} (hb : BalZ L id t d) (M : List Ent) : BalZ (L ++ M) id t d :=
  ⟨isKnown_append M hb.known, by rw [txt_append h M hb.known]; exact hb.text, by rw [entAt_append L M id hb.known]; exact hb.even, by rw [entAt_append L M id hb.known]; exact hb.depth⟩
theorem Grows.balz {L L' : List Ent} {n : Nat} (h : Grows L L' n) (hd : DOk L) {id : Int} {t : List Int} {d : Int} (hb : BalZ L id t d) : BalZ L' id t d := by
  obtain ⟨M, e⟩ := h.ext
  rw [e]; exact hb.more hd M
theorem BalZ.len {L : List Ent} {id : Int} {t : List Int} {d : Int} (h : BalZ L id t d) (hd : DOk L) (hs : SOk L) : (t.length : Int) = (entAt L id).wt.len := by
  have := bal_len hd hs id.toNat id (Nat.le_refl _) h.known h.even
  rw [h.text] at this; exact this
theorem BalZ.ne {L : List Ent} {id : Int} {t : List Int} {d : Int} (h : BalZ L id t d) (ht : t ≠ []) : id ≠ 0 := fun e => ht (h.of0 e).1
theorem Bal.pos {L : List Ent} {id : Int} {t : List Int} {d : Int} (h : Bal L id t d) (hd : DOk L) (hs : SOk L) : 1 ≤ t.length := by
  have := h.z.len hd hs
  have := (hs.at id h.known).2.2.2 h.ne
  omega

/-- A call that makes a balanced text or 0. -/
def ZPost (B : Nat) (w : World) (p mb : Nat) (most : Int) (L : List Ent) (t : List Int) (D : Int → Nat → Prop) (e : Ending) (w' : World) : Prop :=
  ∃ L' id d k, e = .returned (.tuple #[.int .i64 id, .nilIface]) ∧ Sto B w' p mb most L' ∧ Kp B mb w w' ∧ Grows L L' k ∧ BalZ L' id t d ∧ D d k

theorem APost.z {B : Nat} {w : World} {p mb : Nat} {most : Int} {L : List Ent} {t : List Int} {D : Int → Nat → Prop} {e : Ending} {w' : World} (h : APost B w p mb most L t D e w') : ZPost B w p mb most L t D e w' := by
  obtain ⟨L', id, d, k, h1, h2, h3, h4, h5, h6⟩ := h
  exact ⟨L', id, d, k, h1, h2, h3, h4, h5.z, h6⟩
theorem ZPost.ret {B : Nat} {w : World} {p mb : Nat} {most : Int} {L : List Ent} {t : List Int} {D : Int → Nat → Prop} {e : Ending} {w' : World} (h : ZPost B w p mb most L t D e w') : ∃ id, e = .returned (.tuple #[.int .i64 id, .nilIface]) := by
  obtain ⟨L', id, d, k, h1, _⟩ := h
  exact ⟨id, h1⟩
theorem ZPost.mono {B : Nat} {w : World} {p mb : Nat} {most : Int} {L : List Ent} {t u : List Int} {D E : Int → Nat → Prop} {e : Ending} {w' : World} (h : ZPost B w p mb most L t D e w') (ht : t = u) (hD : ∀ d k, D d k → E d k) : ZPost B w p mb most L u E e w' := by
  obtain ⟨L', id, d, k, h1, h2, h3, h4, h5, h6⟩ := h
  subst ht
  exact ⟨L', id, d, k, h1, h2, h3, h4, h5, hD d k h6⟩
theorem ZPost.before {B : Nat} {w w1 : World} {p mb : Nat} {most : Int} {L : List Ent} {t : List Int} {D : Int → Nat → Prop} {e : Ending} {w' : World} (h0 : Fr0 w w1) (h : ZPost B w1 p mb most L t D e w') : ZPost B w p mb most L t D e w' := by
  obtain ⟨L', id, d, k, h1, h2, h3, h4, h5, h6⟩ := h
  exact ⟨L', id, d, k, h1, h2, (Kp.of0 h0).trans h3, h4, h5, h6⟩
theorem ZPost.next {B : Nat} {w w1 : World} {p mb : Nat} {most : Int} {L L1 : List Ent} {k1 : Nat} {t : List Int} {D E : Int → Nat → Prop} {e : Ending} {w' : World} (hK : Kp B mb w w1) (hg : Grows L L1 k1) (h : ZPost B w1 p mb most L1 t D e w') (hD : ∀ d k, D d k → E d (k1 + k)) : ZPost B w p mb most L t E e w' := by
  obtain ⟨L', id, d, k, h1, h2, h3, h4, h5, h6⟩ := h
  exact ⟨L', id, d, k1 + k, h1, h2, hK.trans h3, hg.trans h4 (Nat.le_refl _), h5, hD d k h6⟩
/-- Nothing was made: an ID of the store. -/
theorem ZPost.same {B : Nat} {w w' : World} {p mb : Nat} {most : Int} {L : List Ent} {n : Nat} (hR : Room B w p mb most L n) (hf : Fr0 w w') {id : Int} {t : List Int} {d : Int} (hb : BalZ L id t d) {D : Int → Nat → Prop} (hD : D d 0) : ZPost B w p mb most L t D (.returned (.tuple #[.int .i64 id, .nilIface])) w' :=
  ⟨L, id, d, 0, rfl, hR.st.kept0 hf, Kp.of0 hf, Grows.refl hR.sok hR.dok, hb, hD⟩

set_option maxRecDepth 100000 in
set_option maxHeartbeats 2000000 in
theorem avl_Join {B : Nat} {w : World} {p mb : Nat} {most : Int} {L : List Ent} {a b : Int} {s t : List Int} {da db : Int} (hR : Room B w p mb most L (joinN da db)) (ha : BalZ L a s da) (hb : BalZ L b t db) (hl : (s.length : Int) + t.length ≤ 1152921504606846976) :
    Calls Tryz.prog 110 #[.pointer (some ⟨p, 0, none⟩), .int .i64 a, .int .i64 b] w (ZPost B w p mb most L (s ++ t) (fun d k => joinD da db d ∧ k ≤ joinN da db)) := by
  have CWA := Lib.hid (fun W (hW : Fr0 w W) => sto_Weight (hR.st.kept0 hW) a ha.known)
  have CWB := Lib.hid (fun W (hW : Fr0 w W) => sto_Weight (hR.st.kept0 hW) b hb.known)
  have CEA := Lib.hid (fun W (hW : Fr0 w W) => sto_Even (hR.st.kept0 hW) a ha.known)
  have CEB := Lib.hid (fun W (hW : Fr0 w W) => sto_Even (hR.st.kept0 hW) b hb.known)
  rw [ha.even] at CEA
  rw [hb.even] at CEB
  have la := ha.len hR.dok hR.sok
  have lb := hb.len hR.dok hR.sok
  have a0 := hR.sok.at a ha.known
  have b0 := hR.sok.at b hb.known
  rw [ha.depth] at a0
  rw [hb.depth] at b0
  have da0 := a0.2.1
  have db0 := b0.2.1
  have q1 : 0 ≤ (entAt L a).wt.len := by omega
  have q2 : 0 ≤ (entAt L b).wt.len := by omega
  have q3 : (entAt L a).wt.len + (entAt L b).wt.len ≤ 1152921504606846976 := by omega
  generalize (entAt L a).wt = x at *
  generalize (entAt L b).wt = y at *
  clear la lb a0 b0
  by_cases h0 : a = 0
  · obtain ⟨rfl, rfl⟩ := ha.of0 h0
    subst h0
    have HX := Lib.hid (fun W (hW : Fr0 w W) => ZPost.same (D := fun d k => joinD 0 db d ∧ k ≤ joinN 0 db) hR hW hb ⟨⟨by omega, by omega⟩, by omega⟩)
    clear hR ha hb
    go_enter Tryz.func110, Tryz.ntmps110
    go_wp2_with fail
    refine (CWA.out _ (Fr0.refl w)).mono ?_
    rintro e w1 ⟨rfl, f1⟩
    go_wp2_with fail
    refine (CWB.out _ (f1.alloc _)).mono ?_
    rintro e w2 ⟨rfl, f2⟩
    have F2 := (f1.alloc _).trans f2
    clear f1
    go_wp2_with fail
    refine (CEA.out _ (F2.alloc _)).mono ?_
    rintro e w3 ⟨rfl, f3⟩
    have F3 := (F2.alloc _).trans f3
    go_wp2_with fail
    refine (CEB.out _ F3).mono ?_
    rintro e w4 ⟨rfl, f4⟩
    have F4 := F3.trans f4
    have hxa := f4.kept (f3.kept (((Fr0.refl w2).alloc _).kept (f2.kept (b := w1.heap.size) (alloc_at w1 _ _ rfl))))
    have hxb := f4.kept (f3.kept (b := w2.heap.size) (alloc_at w2 _ _ rfl))
    have ca : w4.cell? ⟨w1.heap.size, 0, none⟩ = some (.int .i64 x.len) := by rw [cell_of_block hxa]; rfl
    have cb : w4.cell? ⟨w2.heap.size, 0, none⟩ = some (.int .i64 y.len) := by rw [cell_of_block hxb]; rfl
    clear hxa hxb
    go_wp2_with fail
    refine (len_Add_ok _ _ _ q1 q2 q3).mono ?_
    rintro e w' ⟨rfl, rfl⟩
    have HX' := Lib.hid (HX.out _ F4)
    clear HX
    go_wp2_with fail
    go_ret2
    exact HX'.out
  · have n1 : (a == 0) = false := by simpa using h0
    by_cases h1 : b = 0
    · obtain ⟨rfl, rfl⟩ := hb.of0 h1
      subst h1
      have HX := Lib.hid (fun W (hW : Fr0 w W) => ZPost.same (D := fun d k => joinD da 0 d ∧ k ≤ joinN da 0) hR hW ha ⟨⟨by omega, by omega⟩, by omega⟩)
      rw [List.append_nil]
      clear hR ha hb
      go_enter Tryz.func110, Tryz.ntmps110
      go_wp2_with fail
      refine (CWA.out _ (Fr0.refl w)).mono ?_
      rintro e w1 ⟨rfl, f1⟩
      go_wp2_with fail
      refine (CWB.out _ (f1.alloc _)).mono ?_
      rintro e w2 ⟨rfl, f2⟩
      have F2 := (f1.alloc _).trans f2
      clear f1
      go_wp2_with fail
      refine (CEA.out _ (F2.alloc _)).mono ?_
      rintro e w3 ⟨rfl, f3⟩
      have F3 := (F2.alloc _).trans f3
      go_wp2_with fail
      refine (CEB.out _ F3).mono ?_
      rintro e w4 ⟨rfl, f4⟩
      have F4 := F3.trans f4
      have hxa := f4.kept (f3.kept (((Fr0.refl w2).alloc _).kept (f2.kept (b := w1.heap.size) (alloc_at w1 _ _ rfl))))
      have hxb := f4.kept (f3.kept (b := w2.heap.size) (alloc_at w2 _ _ rfl))
      have ca : w4.cell? ⟨w1.heap.size, 0, none⟩ = some (.int .i64 x.len) := by rw [cell_of_block hxa]; rfl
      have cb : w4.cell? ⟨w2.heap.size, 0, none⟩ = some (.int .i64 y.len) := by rw [cell_of_block hxb]; rfl
      clear hxa hxb
      go_wp2_with fail
      refine (len_Add_ok _ _ _ q1 q2 q3).mono ?_
      rintro e w' ⟨rfl, rfl⟩
      have HX' := Lib.hid (HX.out _ F4)
      clear HX
      go_wp2_with fail
      go_ret2
      exact HX'.out
    · have n2 : (b == 0) = false := by simpa using h1
      have CJ := Lib.hid (fun W (hW : Fr0 w W) => avl_join ((da + db).toNat + 1) B W p mb most L a b s t da db (by omega) (hR.kept0 hW) (ha.bal h0) (hb.bal h1) hl)
      clear hR ha hb h0 h1
      go_enter Tryz.func110, Tryz.ntmps110
      go_wp2_with fail
      refine (CWA.out _ (Fr0.refl w)).mono ?_
      rintro e w1 ⟨rfl, f1⟩
      go_wp2_with fail
      refine (CWB.out _ (f1.alloc _)).mono ?_
      rintro e w2 ⟨rfl, f2⟩
      have F2 := (f1.alloc _).trans f2
      clear f1
      go_wp2_with fail
      refine (CEA.out _ (F2.alloc _)).mono ?_
      rintro e w3 ⟨rfl, f3⟩
      have F3 := (F2.alloc _).trans f3
      go_wp2_with fail
      refine (CEB.out _ F3).mono ?_
      rintro e w4 ⟨rfl, f4⟩
      have F4 := F3.trans f4
      have hxa := f4.kept (f3.kept (((Fr0.refl w2).alloc _).kept (f2.kept (b := w1.heap.size) (alloc_at w1 _ _ rfl))))
      have hxb := f4.kept (f3.kept (b := w2.heap.size) (alloc_at w2 _ _ rfl))
      have ca : w4.cell? ⟨w1.heap.size, 0, none⟩ = some (.int .i64 x.len) := by rw [cell_of_block hxa]; rfl
      have cb : w4.cell? ⟨w2.heap.size, 0, none⟩ = some (.int .i64 y.len) := by rw [cell_of_block hxb]; rfl
      clear hxa hxb
      go_wp2_with fail
      refine (len_Add_ok _ _ _ q1 q2 q3).mono ?_
      rintro e w' ⟨rfl, rfl⟩
      have CJ' := Lib.hid (CJ.out _ F4)
      clear CJ
      go_wp2_with fail
      refine CJ'.out.mono ?_
      rintro e w5 hx
      obtain ⟨id, rfl⟩ := hx.ret
      have HX := Lib.hid (ZPost.before F4 hx.z)
      clear hx CJ'
      go_wp2_with fail
      go_ret2
      exact HX.out

end Go.Proofs.YtclpndigmidjkaaGreat

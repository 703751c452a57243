/- The walks of split.size, check, front and rest. -/
import Derived.Test.YtclpndigmidjkaaGreatAvl3
set_option linter.unusedSimpArgs false
set_option linter.unusedVariables false
namespace Go.Proofs.YtclpndigmidjkaaGreat
open Go.RowKit

set_option maxRecDepth 100000 in
set_option maxHeartbeats 400000 in
theorem split_size {B : Nat} {w : World} {p mb : Nat} {most : Int} {L : List Ent} (hS : Sto B w p mb most L) (id : Int) (h : isKnown L id) (n : Int) (hn : (entAt L id).wt.len = n) :
    Calls Tryz.prog 133 #[.pointer (some ⟨p, 0, none⟩), .int .i64 id] w fun e w' => e = .returned (.tuple #[.int .i64 n, .nilIface]) ∧ Fr0 w w' := by
  subst hn
  have c1 := sto_Weight hS id h
  have C1 := Lib.hid c1
  clear c1 hS h
  generalize entAt L id = x at *
  go_enter Tryz.func133, Tryz.ntmps133
  go_wp2_with fail
  refine C1.out.mono ?_
  rintro e w1 ⟨rfl, hf1⟩
  go_wp2_with fail
  go_ret2
  exact ⟨rfl, hf1.alloc _⟩

theorem sto_Balanced {B : Nat} {w : World} {p mb : Nat} {most : Int} {L : List Ent} (h : Sto B w p mb most L) (id : Int) (hk : isKnown L id) (b : Bool) (hb : (entAt L id).even = b) :
    Calls Tryz.prog 90 #[.pointer (some ⟨p, 0, none⟩), .int .i64 id] w fun e w' => e = .returned (.tuple #[.bool b, .nilIface]) ∧ Fr0 w w' := by
  obtain ⟨sv, hS, _⟩ := h
  subst hb
  exact avl_Balanced hS id hk

set_option maxRecDepth 100000 in
set_option maxHeartbeats 400000 in
theorem split_check {B : Nat} {w : World} {p mb : Nat} {most : Int} {L : List Ent} (hS : Sto B w p mb most L) (id : Int) (h : isKnown L id) (he : (entAt L id).even = true) (n : Int) (hn : (entAt L id).wt.len = n) :
    Calls Tryz.prog 114 #[.pointer (some ⟨p, 0, none⟩), .int .i64 id] w fun e w' => e = .returned (.tuple #[.int .i64 n, .nilIface]) ∧ Fr0 w w' := by
  have C1 := Lib.hid (sto_Balanced hS id h true he)
  have C2 := Lib.hid (fun W (hW : Fr0 w W) => split_size (hS.kept0 hW) id h n hn)
  clear hS h he hn
  go_enter Tryz.func114, Tryz.ntmps114
  go_wp2_with fail
  refine C1.out.mono ?_
  rintro e w1 ⟨rfl, hf1⟩
  go_wp2_with fail
  refine (C2.out _ hf1).mono ?_
  rintro e w2 ⟨rfl, hf2⟩
  go_wp2_with fail
  go_ret2
  exact ⟨rfl, hf1.trans hf2⟩

theorem bal_one {L : List Ent} (hd : DOk L) (hs : SOk L) {id : Int} {t : List Int} {d : Int} (h : Bal L id t d) (h0 : d = 0) : t.length = 1 := by
  subst h0
  have hk := h.known
  have hbk := hk.2
  rcases hd.at id hk h.ne with ⟨k1, k2⟩ | ⟨k1, k2, k3⟩ | ⟨k1, k2, k3⟩
  · rw [← h.text, txt_letter hk h.ne k1]; rfl
  · have hdep := h.depth
    rw [k3] at hdep
    have hdep' : 1 + max (entAt L (entAt L id).rule.left).depth (entAt L (entAt L id).rule.right).depth = 0 := hdep
    have := (hs.at (entAt L id).rule.left ⟨by omega, by omega⟩).2.1
    omega
  · have he := h.even
    rw [k3] at he
    cases he

theorem Bal.le {L : List Ent} {id : Int} {t : List Int} {d : Int} (h : Bal L id t d) (hd : DOk L) (hs : SOk L) : (t.length : Int) ≤ 1152921504606846976 := by
  have := h.z.len hd hs
  have := (hs.at id h.known).1.len1
  omega

set_option maxRecDepth 100000 in
set_option maxHeartbeats 400000 in
theorem spl_front_zero (p : Nat) (id : Int) (w : World) :
    Calls Tryz.prog 130 #[.pointer (some ⟨p, 0, none⟩), .int .i64 id, .int .i64 0] w fun e w' => e = .returned (.tuple #[.int .i64 0, .nilIface]) ∧ w = w' := by
  go_enter Tryz.func130, Tryz.ntmps130
  go_wp2_with fail
  go_ret2
  exact ⟨rfl, rfl⟩

set_option maxRecDepth 100000 in
set_option maxHeartbeats 400000 in
theorem spl_rest_zero (p : Nat) (id : Int) (w : World) :
    Calls Tryz.prog 131 #[.pointer (some ⟨p, 0, none⟩), .int .i64 id, .int .i64 0] w fun e w' => e = .returned (.tuple #[.int .i64 id, .nilIface]) ∧ w = w' := by
  go_enter Tryz.func131, Tryz.ntmps131
  go_wp2_with fail
  go_ret2
  exact ⟨rfl, rfl⟩

/-- The depth of a part, and the rules that it takes. -/
def partD (d e : Int) (k : Nat) : Prop := 0 ≤ e ∧ e ≤ d ∧ (k : Int) ≤ 3 * e + d

theorem take_left (a b : List Int) (m : Int) (h : m ≤ a.length) : (a ++ b).take m.toNat = a.take m.toNat := List.take_append_of_le_length (by omega)
theorem take_right (a b : List Int) (m : Int) (h : (a.length : Int) ≤ m) : (a ++ b).take m.toNat = a ++ b.take (m - a.length).toNat := by
  rw [List.take_append, List.take_of_length_le (by omega)]
  congr 2
  omega
theorem drop_left (a b : List Int) (m : Int) (h : m ≤ a.length) : (a ++ b).drop m.toNat = a.drop m.toNat ++ b := List.drop_append_of_le_length (by omega)
theorem drop_right (a b : List Int) (m : Int) (h : (a.length : Int) ≤ m) : (a ++ b).drop m.toNat = b.drop (m - a.length).toNat := by
  rw [List.drop_append, List.drop_of_length_le (by omega), List.nil_append]
  congr 1
  omega

set_option maxRecDepth 100000 in
set_option maxHeartbeats 2000000 in
theorem spl_front : ∀ (n B : Nat) (w : World) (p mb : Nat) (most : Int) (L : List Ent) (id : Int) (t : List Int) (d m : Int), d.toNat < n → Room B w p mb most L (4 * d.toNat) → Bal L id t d → 0 ≤ m → m ≤ t.length →
    Calls Tryz.prog 130 #[.pointer (some ⟨p, 0, none⟩), .int .i64 id, .int .i64 m] w (ZPost B w p mb most L (t.take m.toNat) (partD d)) := by
  intro n
  induction n with
  | zero => intro B w p mb most L id t d m h; omega
  | succ n ih =>
  intro B w p mb most L id t d m hn hR hb hm0 hm1
  obtain ⟨d0, d1⟩ := hR.depth hb
  by_cases hz : m = 0
  · subst hz
    refine (spl_front_zero p id w).mono ?_
    rintro e w' ⟨rfl, rfl⟩
    exact ZPost.same hR (Fr0.refl w) (BalZ.zero L) ⟨by omega, by omega, by omega⟩
  · have hlen := hb.z.len hR.dok hR.sok
    have hle := hb.le hR.dok hR.sok
    have CS := Lib.hid (fun W (hW : Fr0 w W) => split_size (hR.st.kept0 hW) id hb.known t.length hlen.symm)
    by_cases hT : m = t.length
    · have HX := Lib.hid (fun W (hW : Fr0 w W) => ZPost.same (D := partD d) hR hW hb.z ⟨by omega, by omega, by omega⟩)
      rw [hT, Int.toNat_natCast, List.take_length]
      subst hT
      have hnz : ((t.length : Int) == 0) = false := by simpa using hz
      clear hR hb hlen ih hm0 hm1 hz
      generalize (t.length : Int) = T at *
      go_enter Tryz.func130, Tryz.ntmps130
      go_wp2_with fail
      refine (CS.out _ (Fr0.refl w)).mono ?_
      rintro e w1 ⟨rfl, f1⟩
      have HX' := Lib.hid (HX.out _ f1)
      clear HX
      go_wp2_with fail
      go_ret2
      exact HX'.out
    · have hd1 : 1 ≤ d := by
        by_cases h : d < 1
        · have := bal_one hR.dok hR.sok hb (by omega); omega
        · omega
      obtain ⟨l, r, tl, tr, dl, dr, hru, hbl, hbr, hst, hdd, hd2, hd3⟩ := bal_parts hR.dok hb hd1
      obtain ⟨dl0, _⟩ := hR.depth hbl
      obtain ⟨dr0, _⟩ := hR.depth hbr
      have CR := Lib.hid (fun W (hW : Fr0 w W) => sto_Rule (hR.st.kept0 hW) id hb.known hb.ne)
      rw [hru] at CR
      have CL := Lib.hid (fun W (hW : Fr0 w W) => split_size (hR.st.kept0 hW) l hbl.known tl.length (hbl.z.len hR.dok hR.sok).symm)
      have hsum : (t.length : Int) = tl.length + tr.length := by rw [hst, List.length_append]; omega
      have e1 : (m == 0) = false := by simpa using hz
      have e2 : (m == (t.length : Int)) = false := by simpa using hT
      by_cases hc : m ≤ tl.length
      · have CF := Lib.hid (fun W (hW : Fr0 w W) => ih B W p mb most L l tl dl m (by omega) ((hR.kept0 hW).less (by omega)) hbl hm0 hc)
        rw [hst, take_left _ _ _ hc]
        clear hR hb hlen ih hz hT hru hbl hbr hst
        generalize (t.length : Int) = T at *
        generalize (tl.length : Int) = M at *
        go_enter Tryz.func130, Tryz.ntmps130
        go_wp2_with fail
        refine (CS.out _ (Fr0.refl w)).mono ?_
        rintro e w1 ⟨rfl, f1⟩
        go_wp2_with fail
        refine (CR.out _ f1).mono ?_
        rintro e w2 ⟨rfl, f2⟩
        have F2 := f1.trans f2
        clear f1 f2
        go_wp2_with fail
        refine (CL.out _ (F2.alloc _)).mono ?_
        rintro e w3 ⟨rfl, f3⟩
        have hr3 := f3.kept (b := w2.heap.size) (alloc_at w2 _ _ rfl)
        have F3 := (F2.alloc _).trans f3
        obtain ⟨r1, r2, r3, r4, r5, lr⟩ := cells5 hr3
        clear hr3 f3
        go_wp2_with fail
        refine (CF.out _ F3).mono ?_
        rintro e w4 hx
        obtain ⟨x, rfl⟩ := hx.ret
        have HX := Lib.hid ((ZPost.before F3 hx).mono (E := partD d) rfl (fun e k h => ⟨h.1, by have := h.2.1; omega, by have := h.2.2; omega⟩))
        clear hx
        go_wp2_with fail
        go_ret2
        exact HX.out
      · have CF := Lib.hid (fun W (hW : Fr0 w W) => ih B W p mb most L r tr dr (m - tl.length) (by omega) ((hR.kept0 hW).less (by omega)) hbr (by omega) (by omega))
        rw [hst, take_right _ _ _ (by omega)]
        have HR := Lib.hid hR
        have HBL := Lib.hid hbl
        have hlt : (((tr.take (m - tl.length).toNat).length : Nat) : Int) ≤ tr.length := by rw [List.length_take]; omega
        have HLT := Lib.hid (show (tl.length : Int) + ((tr.take (m - tl.length).toNat).length : Nat) ≤ 1152921504606846976 by omega)
        generalize tr.take (m - tl.length).toNat = trm at *
        have hc' : (tl.length : Int) < m := by omega
        have hc2 : decide (m ≤ (tl.length : Int)) = false := decide_eq_false hc
        have b1 : (0 : Int) ≤ tl.length := by omega
        have b2 : (tl.length : Int) ≤ 1152921504606846976 := by omega
        clear hR hb hlen ih hz hT hru hbl hbr hst hlt
        generalize hML : (tl.length : Int) = M at *
        generalize (t.length : Int) = T at *
        have HML := Lib.hid hML
        clear hML
        go_enter Tryz.func130, Tryz.ntmps130
        go_wp2_with fail
        refine (CS.out _ (Fr0.refl w)).mono ?_
        rintro e w1 ⟨rfl, f1⟩
        go_wp2_with fail
        refine (CR.out _ f1).mono ?_
        rintro e w2 ⟨rfl, f2⟩
        have F2 := f1.trans f2
        clear f1 f2
        go_wp2_with fail
        refine (CL.out _ (F2.alloc _)).mono ?_
        rintro e w3 ⟨rfl, f3⟩
        have hr3 := f3.kept (b := w2.heap.size) (alloc_at w2 _ _ rfl)
        have F3 := (F2.alloc _).trans f3
        obtain ⟨r1, r2, r3, r4, r5, lr⟩ := cells5 hr3
        have HR3 := Lib.hid hr3
        clear hr3 f3
        go_wp2_with fail
        refine (CF.out _ F3).mono ?_
        rintro e w4 ⟨L1, x, dx, kx, rfl, hS1, hK1, g, bx, hx0, hx1, hx2⟩
        have hr4 := hK1.cells _ _ _ _ HR3.out (by decide) (by decide)
        have CJ := Lib.hid (avl_Join ((HR.out.kept0 F3).next hS1 hK1 g (by unfold joinN; omega)) (g.balz HR.out.dok HBL.out.z) bx (by have := HLT.out; have := HML.out; omega))
        have HK := Lib.hid ((Kp.of0 F3).trans hK1)
        have HG := Lib.hid g
        clear hS1 hK1 g bx r1 r2 r3 r4 r5 lr HR3 CF
        obtain ⟨r1, r2, r3, r4, r5, lr⟩ := cells5 hr4
        clear hr4
        go_wp2_with fail
        refine CJ.out.mono ?_
        rintro e w5 hx
        obtain ⟨y, rfl⟩ := hx.ret
        have HX := Lib.hid (ZPost.next (E := partD d) HK.out HG.out hx (fun e k h => by obtain ⟨⟨h1, h2⟩, h3⟩ := h; unfold joinN at h3; exact ⟨by omega, by omega, by omega⟩))
        clear hx CJ
        go_wp2_with fail
        go_ret2
        exact HX.out

set_option maxRecDepth 100000 in
set_option maxHeartbeats 2000000 in
theorem spl_rest : ∀ (n B : Nat) (w : World) (p mb : Nat) (most : Int) (L : List Ent) (id : Int) (t : List Int) (d m : Int), d.toNat < n → Room B w p mb most L (4 * d.toNat) → Bal L id t d → 0 ≤ m → m ≤ t.length →
    Calls Tryz.prog 131 #[.pointer (some ⟨p, 0, none⟩), .int .i64 id, .int .i64 m] w (ZPost B w p mb most L (t.drop m.toNat) (partD d)) := by
  intro n
  induction n with
  | zero => intro B w p mb most L id t d m h; omega
  | succ n ih =>
  intro B w p mb most L id t d m hn hR hb hm0 hm1
  obtain ⟨d0, d1⟩ := hR.depth hb
  by_cases hz : m = 0
  · subst hz
    refine (spl_rest_zero p id w).mono ?_
    rintro e w' ⟨rfl, rfl⟩
    exact ZPost.same hR (Fr0.refl w) hb.z ⟨by omega, by omega, by omega⟩
  · have hlen := hb.z.len hR.dok hR.sok
    have hle := hb.le hR.dok hR.sok
    have CS := Lib.hid (fun W (hW : Fr0 w W) => split_size (hR.st.kept0 hW) id hb.known t.length hlen.symm)
    by_cases hT : m = t.length
    · have HX := Lib.hid (fun W (hW : Fr0 w W) => ZPost.same (D := partD d) hR hW (BalZ.zero L) ⟨by omega, by omega, by omega⟩)
      rw [hT, Int.toNat_natCast, List.drop_length]
      subst hT
      have hnz : ((t.length : Int) == 0) = false := by simpa using hz
      clear hR hb hlen ih hm0 hm1 hz
      generalize (t.length : Int) = T at *
      go_enter Tryz.func131, Tryz.ntmps131
      go_wp2_with fail
      refine (CS.out _ (Fr0.refl w)).mono ?_
      rintro e w1 ⟨rfl, f1⟩
      have HX' := Lib.hid (HX.out _ f1)
      clear HX
      go_wp2_with fail
      go_ret2
      exact HX'.out
    · have hd1 : 1 ≤ d := by
        by_cases h : d < 1
        · have := bal_one hR.dok hR.sok hb (by omega); omega
        · omega
      obtain ⟨l, r, tl, tr, dl, dr, hru, hbl, hbr, hst, hdd, hd2, hd3⟩ := bal_parts hR.dok hb hd1
      obtain ⟨dl0, _⟩ := hR.depth hbl
      obtain ⟨dr0, _⟩ := hR.depth hbr
      have CR := Lib.hid (fun W (hW : Fr0 w W) => sto_Rule (hR.st.kept0 hW) id hb.known hb.ne)
      rw [hru] at CR
      have CL := Lib.hid (fun W (hW : Fr0 w W) => split_size (hR.st.kept0 hW) l hbl.known tl.length (hbl.z.len hR.dok hR.sok).symm)
      have hsum : (t.length : Int) = tl.length + tr.length := by rw [hst, List.length_append]; omega
      have e1 : (m == 0) = false := by simpa using hz
      have e2 : (m == (t.length : Int)) = false := by simpa using hT
      by_cases hc : tl.length ≤ m
      · have CF := Lib.hid (fun W (hW : Fr0 w W) => ih B W p mb most L r tr dr (m - tl.length) (by omega) ((hR.kept0 hW).less (by omega)) hbr (by omega) (by omega))
        rw [hst, drop_right _ _ _ hc]
        have b1 : (0 : Int) ≤ tl.length := by omega
        have b2 : (tl.length : Int) ≤ 1152921504606846976 := by omega
        generalize tr.drop (m - tl.length).toNat = trm at *
        clear hR hb hlen ih hz hT hru hbl hbr hst
        generalize (t.length : Int) = T at *
        generalize (tl.length : Int) = M at *
        go_enter Tryz.func131, Tryz.ntmps131
        go_wp2_with fail
        refine (CS.out _ (Fr0.refl w)).mono ?_
        rintro e w1 ⟨rfl, f1⟩
        go_wp2_with fail
        refine (CR.out _ f1).mono ?_
        rintro e w2 ⟨rfl, f2⟩
        have F2 := f1.trans f2
        clear f1 f2
        go_wp2_with fail
        refine (CL.out _ (F2.alloc _)).mono ?_
        rintro e w3 ⟨rfl, f3⟩
        have hr3 := f3.kept (b := w2.heap.size) (alloc_at w2 _ _ rfl)
        have F3 := (F2.alloc _).trans f3
        obtain ⟨r1, r2, r3, r4, r5, lr⟩ := cells5 hr3
        clear hr3 f3
        go_wp2_with fail
        refine (CF.out _ F3).mono ?_
        rintro e w4 hx
        obtain ⟨x, rfl⟩ := hx.ret
        have HX := Lib.hid ((ZPost.before F3 hx).mono (E := partD d) rfl (fun e k h => ⟨h.1, by have := h.2.1; omega, by have := h.2.2; omega⟩))
        clear hx
        go_wp2_with fail
        go_ret2
        exact HX.out
      · have CF := Lib.hid (fun W (hW : Fr0 w W) => ih B W p mb most L l tl dl m (by omega) ((hR.kept0 hW).less (by omega)) hbl hm0 (by omega))
        rw [hst, drop_left _ _ _ (by omega)]
        have HR := Lib.hid hR
        have HBR := Lib.hid hbr
        have hlt : (((tl.drop m.toNat).length : Nat) : Int) ≤ tl.length := by rw [List.length_drop]; omega
        have HLT := Lib.hid (show ((tl.drop m.toNat).length : Int) + tr.length ≤ 1152921504606846976 by omega)
        generalize tl.drop m.toNat = tlm at *
        have hc' : m < (tl.length : Int) := by omega
        have hc2 : decide ((tl.length : Int) ≤ m) = false := decide_eq_false hc
        have b1 : (0 : Int) ≤ tl.length := by omega
        have b2 : (tl.length : Int) ≤ 1152921504606846976 := by omega
        clear hR hb hlen ih hz hT hru hbl hbr hst hlt
        generalize (tl.length : Int) = M at *
        generalize (t.length : Int) = T at *
        go_enter Tryz.func131, Tryz.ntmps131
        go_wp2_with fail
        refine (CS.out _ (Fr0.refl w)).mono ?_
        rintro e w1 ⟨rfl, f1⟩
        go_wp2_with fail
        refine (CR.out _ f1).mono ?_
        rintro e w2 ⟨rfl, f2⟩
        have F2 := f1.trans f2
        clear f1 f2
        go_wp2_with fail
        refine (CL.out _ (F2.alloc _)).mono ?_
        rintro e w3 ⟨rfl, f3⟩
        have hr3 := f3.kept (b := w2.heap.size) (alloc_at w2 _ _ rfl)
        have F3 := (F2.alloc _).trans f3
        obtain ⟨r1, r2, r3, r4, r5, lr⟩ := cells5 hr3
        have HR3 := Lib.hid hr3
        clear hr3 f3
        go_wp2_with fail
        refine (CF.out _ F3).mono ?_
        rintro e w4 ⟨L1, x, dx, kx, rfl, hS1, hK1, g, bx, hx0, hx1, hx2⟩
        have hr4 := hK1.cells _ _ _ _ HR3.out (by decide) (by decide)
        have CJ := Lib.hid (avl_Join ((HR.out.kept0 F3).next hS1 hK1 g (by unfold joinN; omega)) bx (g.balz HR.out.dok HBR.out.z) HLT.out)
        have HK := Lib.hid ((Kp.of0 F3).trans hK1)
        have HG := Lib.hid g
        clear hS1 hK1 g bx r1 r2 r3 r4 r5 lr HR3 CF
        obtain ⟨r1, r2, r3, r4, r5, lr⟩ := cells5 hr4
        clear hr4
        go_wp2_with fail
        refine CJ.out.mono ?_
        rintro e w5 hx
        obtain ⟨y, rfl⟩ := hx.ret
        have HX := Lib.hid (ZPost.next (E := partD d) HK.out HG.out hx (fun e k h => by obtain ⟨⟨h1, h2⟩, h3⟩ := h; unfold joinN at h3; exact ⟨by omega, by omega, by omega⟩))
        clear hx CJ
        go_wp2_with fail
        go_ret2
        exact HX.out

end Go.Proofs.YtclpndigmidjkaaGreat

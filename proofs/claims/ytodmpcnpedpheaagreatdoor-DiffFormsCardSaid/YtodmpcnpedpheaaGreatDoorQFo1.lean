/- The walk of DiffForms. -/
import Derived.Test.YtodmpcnpedpheaaGreatDoorQMk9
import Derived.Test.YtodmpcnpedpheaaGreatDoorQSt9
import Derived.Test.YtodmpcnpedpheaaGreatDoorQRk2
import Derived.Test.YtodmpcnpedpheaaGreatDoorQDq5
import Derived.Test.YtodmpcnpedpheaaGreatDoorQPa1
import Derived.Test.YtodmpcnpedpheaaGreatDoorQErr
import Derived.Deep.CutBlock
set_option linter.unusedSimpArgs false
set_option linter.unusedVariables false
namespace Go.Proofs.YtodmpcnpedpheaaGreatDoor
open Go.RowKit

theorem oneL_uq {L : List Ent} (hU : Uq L) {m : Mk} (hm : m.Ok) {rs : List Int} : Uq (oneL L m rs).1 := by
  unfold oneL
  by_cases c0 : m.kind % 4 = 0
  · rw [if_pos c0]; exact hU.letter _ hm.l0 hm.l1
  · rw [if_neg c0]
    by_cases c3 : m.kind % 4 = 3
    · rw [if_pos c3]
      by_cases c : pickR rs m.left = 0 ∨ m.times ≤ 0 ∨ MaxL / (entAt L (pickR rs m.left)).wt.len < m.times
      · rw [if_pos c]; exact hU
      · rw [if_neg c]
        by_cases t2 : m.times = 1
        · rw [if_pos t2]; exact hU
        · rw [if_neg t2]; exact hU.pw _ _ (by have : ¬ m.times ≤ 0 := fun h => c (.inr (.inl h)); omega)
    · rw [if_neg c3]
      by_cases l0 : pickR rs m.left = 0
      · rw [if_pos l0]; exact hU
      · rw [if_neg l0]
        by_cases r0 : pickR rs m.right = 0
        · rw [if_pos r0]; exact hU
        · rw [if_neg r0]
          by_cases hd : MaxL - (entAt L (pickR rs m.right)).wt.len < (entAt L (pickR rs m.left)).wt.len
          · rw [if_pos hd]; exact hU
          · rw [if_neg hd]; exact hU.pair _ _

theorem allL_uq (ms : List Mk) (hm : ∀ m ∈ ms, m.Ok) : ∀ k, k ≤ ms.length → Uq (allL (ms.take k)).1 := by
  intro k
  induction k with
  | zero => exact fun _ => Uq.nil
  | succ k ih =>
    intro hk
    rw [allL_take ms k (by omega)]
    exact oneL_uq (ih (by omega)) (hm _ (List.getElem_mem _))

theorem kp_all0 {mb : Nat} {w w1 w' : World} (h0 : Fr0 w w1) (h : Kp w.heap.size mb w1 w') : Fr0 w w' :=
  ⟨h.os.trans (Fr.os h0), h.tape.trans (Fr.tape h0), h.output.trans (Fr.output h0), Nat.le_trans (Fr.size h0) h.size, fun k hk hn => (h.low k hk (Nat.lt_of_lt_of_le hk (Fr.size h0))).trans (Fr.block h0 k hk hn)⟩

open Classical in
/-- The error that the law expects. -/
noncomputable def frmW (L : List Ent) (x y : Int) : Int := if ¬ isKnown L x ∨ ¬ isKnown L y then 1 else if noSig L x ∨ noSig L y then 4 else 0

theorem frm1 {L : List Ent} {x y : Int} (h : ¬ isKnown L x ∨ ¬ isKnown L y) : frmW L x y = 1 := by unfold frmW; rw [if_pos h]
theorem frm4 {L : List Ent} {x y : Int} (hx : isKnown L x) (hy : isKnown L y) (h : noSig L x ∨ noSig L y) : frmW L x y = 4 := by
  unfold frmW; rw [if_neg (fun c => c.elim (fun c => c hx) (fun c => c hy)), if_pos h]
theorem frm0 {L : List Ent} {x y : Int} (hx : isKnown L x) (hy : isKnown L y) (h1 : ¬ noSig L x) (h2 : ¬ noSig L y) : frmW L x y = 0 := by
  unfold frmW; rw [if_neg (fun c => c.elim (fun c => c hx) (fun c => c hy)), if_neg (fun c => c.elim h1 h2)]
theorem noSig_zero (L : List Ent) : ¬ noSig L 0 := fun h => h.1 rfl

/-- The level of an ID, as the keys' list has it. -/
theorem key_cell {w : World} {a8 : Option Addr} {L : List Ent} (h : RG kyv 2 0 w a8 (kyL L (L.length + 1))) {x : Int} (hk : isKnown L x) (h0 : x ≠ 0) :
    ∃ b off, a8 = some ⟨b, off, none⟩ ∧ b < w.heap.size ∧ w.cell? ⟨b, off + x.toNat * 2 + 1, none⟩ = some (.int .i64 (klev L x)) ∧ 0 ≤ x ∧ x < (L.length : Int) + 1 := by
  have h1 := hk.1
  have h2 := hk.2
  obtain ⟨b, off, e1, e2, _, e4⟩ := h x.toNat (by rw [kyL_len]; omega)
  have e5 := e4 1 _ rfl
  rw [kyL_at] at e5
  unfold kyP at e5
  rw [if_neg (show ¬ x.toNat = 0 by omega), show ((x.toNat : Nat) : Int) = x by omega] at e5
  exact ⟨b, off, e1, e2, e5, h1, by omega⟩

theorem frm_cmp {B0 : Nat} {w : World} {pp tp p mb : Nat} {most : Int} {L : List Ent} {T : List KRow} {x y : Int} (hp : Pq B0 w pp tp p mb most L T) (h : frmW L x y ≠ 0) :
    Calls Tryz.prog 33 #[.pointer (some ⟨pp, 0, none⟩), .int .i64 x, .int .i64 y] w (CePost B0 w pp tp p mb most L (frmW L x y)) := by
  unfold frmW at h ⊢
  by_cases c : ¬ isKnown L x ∨ ¬ isKnown L y
  · rw [if_pos c]
    by_cases cx : isKnown L x
    · exact df_compare_unb hp cx (c.resolve_left (fun h => h cx))
    · exact df_compare_una hp cx
  · rw [if_neg c] at h ⊢
    have cx : isKnown L x := Classical.byContradiction (fun h => c (.inl h))
    have cy : isKnown L y := Classical.byContradiction (fun h => c (.inr h))
    by_cases d : noSig L x ∨ noSig L y
    · rw [if_pos d]; exact df_compare_form hp cx cy d
    · rw [if_neg d] at h; exact absurd rfl h

set_option maxRecDepth 100000 in
set_option maxHeartbeats 8000000 in
theorem law_DiffForms {w : World} {a : Option Addr} {cap : Nat} {ms : List Mk} (hdeb : Deb w.heap.size w) (x y : Int) (hA : RG Mk.vals 5 w.heap.size w a ms) (hm : ∀ m ∈ ms, m.Ok) (hx : i64P x) (hy : i64P y) :
    Calls Tryz.prog 3 #[.slice a ms.length cap, .int .i64 x, .int .i64 y] w fun e w' => e = .returned (.bool true) ∧ Fr0 w w' := by
  have HA := Lib.hid hA
  have HM := Lib.hid hm
  have CP := Lib.hid (law_Parser hdeb)
  have CN := Lib.hid (fun W => st_New W)
  have HDB := Lib.hid hdeb
  have HX := Lib.hid hx
  have HY := Lib.hid hy
  clear hA hm hdeb hx hy
  by_cases hl : ms.length ≤ 30
  · have q1 : decide ((30 : Int) < (ms.length : Int)) = false := decide_eq_false (by omega)
    go_enter Tryz.func3, Tryz.ntmps3
    go_wp2_with fail
    refine CP.out.mono ?_
    rintro e w1 ⟨pp0, tp0, p0, mb0, L0, T0, rfl, _, hf1, _⟩
    have F1 := Lib.hid hf1
    clear CP hf1
    go_wp2_with fail
    refine (CN.out _).mono ?_
    rintro e w2 ⟨rfl, hf2, hS2, hz2⟩
    have F2 := Lib.hid (F1.out.trans hf2)
    have hsz : w.heap.size ≤ w1.heap.size := Fr.size F1.out
    have hSt2 : Sto w.heap.size w2 (w1.heap.size + 1) w1.heap.size 1048576 [] := ⟨_, hS2, by omega, by omega, fun k hk => by simp [Value.ownBlock] at hk⟩
    have hs2 := Fr.size hf2
    generalize w1.heap.size + 1 = p at *
    generalize w1.heap.size = mb at *
    have CS := Lib.hid (sig_New hSt2 SOk.nil DOk.nil Uq.nil (by omega) (HDB.out.low (fun k h1 h2 => F2.out.block k h2 id)) (by simp))
    clear hf2 hS2 hz2 hSt2 CN
    go_wp2_with fail
    refine CS.out.mono ?_
    rintro e w3 ⟨pp, tp, rfl, hP3, hf3⟩
    have F3 := Lib.hid (F2.out.trans hf3)
    have HP3 := Lib.hid hP3
    have CB := Lib.hid (law12_Build (cap := cap) hP3.st hP3.base (by omega) (HA.out.kept0 F3.out) (by omega) HM.out)
    clear hf3 hP3 CS F1 F2
    go_wp2_with fail
    refine CB.out.mono ?_
    rintro e w4 ⟨vr, rfl, hS4, hK4, ho4⟩
    obtain ⟨ra4, rcap4, rfl⟩ := owns_form ho4
    have F4 : Hid (Fr0 w w4) := Lib.hid (kp_all0 F3.out hK4)
    obtain ⟨okS, okK, okL, okR⟩ := allL_ok ms HM.out ms.length (Nat.le_refl _)
    have okD := allL_dok ms HM.out ms.length (Nat.le_refl _)
    have okU := allL_uq ms HM.out ms.length (Nat.le_refl _)
    rw [List.take_length] at okS okL okD okU
    have HP4 := Lib.hid (HP3.out.rules (n := ms.length) hS4 hK4 ⟨⟨⟨_, rfl⟩, by simpa using okL, okS, okD⟩, okU⟩ (by omega))
    have CR := Lib.hid (ref12_Build (B := w.heap.size) (cap := cap) (HA.out.kept0 F4.out) (by omega) HM.out)
    clear hS4 hK4 ho4 CB HP3 F3
    go_wp2_with fail
    refine CR.out.mono ?_
    rintro e w5 ⟨va, vb, v5, rfl, hf5, hst5, ho5⟩
    obtain ⟨ra5, rcap5, rfl⟩ := owns_form ho5
    have F5 := Lib.hid (F4.out.trans hf5)
    have HP5 := Lib.hid (HP4.out.kept0 hf5)
    clear okK okR ho5 CR HP4 F4 hf5
    generalize (allL ms).1 = L at *
    have HT5 := Lib.hid hst5
    obtain ⟨⟨ra, rcap, rfl, hru, hrn⟩, ⟨la, lcap, rfl, _⟩, _, _⟩ := hst5
    have HRU := Lib.hid hru
    have HRN := Lib.hid hrn
    have HS := Lib.hid okS
    have HD := Lib.hid okD
    have HU := Lib.hid okU
    clear okS okD okU hru hrn
    go_upto_region 11 with fail
    have F6 : Fr0 w5 (w5.alloc (.cells #[.slice ra L.length rcap, .slice la L.length lcap] 35 (0, 0))) := (Fr0.refl w5).alloc _
    have hZ := alloc_at w5 (.cells #[.slice ra L.length rcap, .slice la L.length lcap] 35 (0, 0)) w5.heap.size rfl
    generalize w5.alloc (.cells #[.slice ra L.length rcap, .slice la L.length lcap] 35 (0, 0)) = W6 at *
    generalize w5.heap.size = Z at *
    have HZ := Lib.hid hZ
    have HT6 := Lib.hid (HT5.out.kept0 F6)
    have HP6 := Lib.hid (HP5.out.kept0 F6)
    have HRU6 := Lib.hid (HRU.out.kept0 F6)
    have FF6 := Lib.hid (F5.out.trans F6)
    obtain ⟨z0, z1, lz⟩ := cells2w hZ
    clear F6 hZ HT5 HP5 HRU F5
    have HN5 := Lib.hid (allL_ok ms HM.out ms.length (Nat.le_refl _)).2.2.2
    have hH6 : w.heap.size ≤ W6.heap.size := Fr.size FF6.out
    go_wp2_with (at_builtin; refine wpList_append_rt rt_rule rfl _ _ rfl w.heap.size (.slice (some ⟨W6.heap.size, 0, none⟩) 1 1) 1 ez.rule.vals rfl ⟨rfl, .inr ⟨W6.heap.size, 1, #[.int .i64 0, .int .u8 0, .int .i64 0, .int .i64 0, .int .i64 0], rfl, hH6, alloc_at W6 _ _ rfl, Nat.le_refl _, by unfold maxLen; omega, rfl, rfl⟩⟩ _ L.length (L.flatMap rlv) rfl (src_rg (HRU6.out.kept0 ((Fr0.refl W6).alloc _)) (fun _ _ => rfl) (by decide) HRN.out) (flat_len rlv 5 L (fun _ _ => rfl)) (fun u hu => (by obtain ⟨e, _, he⟩ := List.mem_flatMap.1 hu; unfold rlv Rl.vals at he; simp at he; rcases he with rfl | rfl | rfl | rfl | rfl <;> rfl)) (by unfold maxLen; omega) (by omega) (by simp; omega) ?_; intro v7 w7 hO7 hg7 hat7)
    have f7 : Fr0 w w7 := Fr.grown (FF6.out.alloc _) hg7 (fun k hk hlt => by have e : some W6.heap.size = some k := hk; have := Option.some.inj e; omega)
    have F7 := Lib.hid f7
    clear f7
    have f67 : Fr0 W6 w7 := Fr.grown ((Fr0.refl W6).alloc _) hg7 (fun k hk hlt => by have e : some W6.heap.size = some k := hk; have := Option.some.inj e; omega)
    have hO7' : w7.ownsRow w.heap.size 42 5 v7 (ez :: L).length ((ez :: L).flatMap rlq) := by
      rw [List.length_cons, Nat.add_comm, List.flatMap_cons]; exact hO7
    obtain ⟨a7, cap7, rfl, hr7⟩ := rg_of_own (vals := rlq) (size := 5) (T := 42) (B := 0) (fun _ _ => rfl) hO7' (by decide) (by decide)
    rw [List.length_cons]
    have CK := Lib.hid (r20_Keys (cap := cap7) hr7 HD.out HS.out HU.out (by omega))
    have HZ7 := Lib.hid (f67.kept HZ.out)
    have HT7 := Lib.hid (HT6.out.kept0 f67)
    have HP7 := Lib.hid (HP6.out.kept0 f67)
    clear hO7 hO7' hg7 hat7 hr7 f67 HT6 HP6 HRU6 HRN HZ FF6 z0 z1 lz hH6
    go_wp2_with fail
    refine CK.out.mono ?_
    rintro e w8 ⟨v8, rfl, hf8, hO8⟩
    obtain ⟨a8, cap8, rfl⟩ := owns_form hO8
    have hg8 := rg_of_own (xs := kyL L (L.length + 1)) (vals := kyv) (size := 2) (T := 47) (B := 0) (w := w8) (fun _ _ => rfl) (by rw [kyL_len]; exact hO8) (by decide) (by decide)
    rw [kyL_len] at hg8
    obtain ⟨_, _, hv8, hr8⟩ := hg8
    obtain ⟨rfl, rfl⟩ : a8 = _ ∧ cap8 = _ := by simpa using hv8
    have HR8 := Lib.hid hr8
    have HZ8 := Lib.hid (hf8.kept HZ7.out)
    have HT8 := Lib.hid (HT7.out.kept0 hf8)
    have HP8 := Lib.hid (HP7.out.kept0 hf8)
    have F8 := Lib.hid (F7.out.trans hf8)
    clear hf8 hO8 hv8 hr8 HZ7 HT7 HP7 F7 CK
    go_upto_region 13 with fail
    obtain ⟨z0, z1, lz⟩ := cells2w HZ8.out
    obtain ⟨kx, hkx⟩ : ∃ b : Bool, decide (0 ≤ x ∧ x ≤ (L.length : Int)) = b := ⟨_, rfl⟩
    obtain ⟨ky, hky⟩ : ∃ b : Bool, decide (0 ≤ y ∧ y ≤ (L.length : Int)) = b := ⟨_, rfl⟩
    obtain ⟨nk, hnk⟩ : ∃ b : Bool, (!kx || !ky) = b := ⟨_, rfl⟩
    obtain ⟨wv, hwv⟩ : ∃ v, frmW L x y = v := ⟨_, rfl⟩
    have CKX := Lib.hid (fun W (hW : Fr0 w8 W) => ref12_Known (HT8.out.kept0 hW) (by omega) x kx hkx)
    have CKY := Lib.hid (fun W (hW : Fr0 w8 W) => ref12_Known (HT8.out.kept0 hW) (by omega) y ky hky)
    have HKX := Lib.hid hkx
    have HKY := Lib.hid hky
    have HNK := Lib.hid hnk
    have HWV := Lib.hid hwv
    clear hkx hky hnk hwv
    go_cut [70] (fun u wx => u = .bool nk ∧ Fr0 w8 wx)
    case first =>
      clear HKX HKY HWV HP8 HR8 HN5 HS HD HU HM HA F8
      cases kx with
      | false =>
        have : nk = true := by rw [← HNK.out]; rfl
        subst this
        go_wp2_with fail
        refine (CKX.out _ (Fr0.refl w8)).mono ?_
        rintro e w9 ⟨rfl, hf9⟩
        go_wp2_with fail
        go_meet
        exact ⟨rfl, hf9⟩
      | true =>
        have : nk = !ky := by rw [← HNK.out]; rfl
        subst this
        go_wp2_with fail
        refine (CKX.out _ (Fr0.refl w8)).mono ?_
        rintro e w9 ⟨rfl, hf9⟩
        obtain ⟨y0, y1, ly⟩ := cells2w (hf9.kept HZ8.out)
        have HF9 := Lib.hid hf9
        clear hf9
        cases ky with
        | false =>
          go_wp2_with fail
          refine (CKY.out _ HF9.out).mono ?_
          rintro e w10 ⟨rfl, hf10⟩
          go_wp2_with fail
          go_meet
          exact ⟨rfl, HF9.out.trans hf10⟩
        | true =>
          go_wp2_with fail
          refine (CKY.out _ HF9.out).mono ?_
          rintro e w10 ⟨rfl, hf10⟩
          go_wp2_with fail
          go_meet
          exact ⟨rfl, HF9.out.trans hf10⟩
    case rest =>
    obtain ⟨rfl, hf9⟩ := hcut
    rename World => W9
    have HR9 := Lib.hid (HR8.out.kept0 hf9)
    have HP9 := Lib.hid (HP8.out.kept0 hf9)
    have F9 := Lib.hid (F8.out.trans hf9)
    clear hf9 HR8 HP8 F8 HZ8 HT8 z0 z1 lz CKX CKY
    go_upto_if 70 with fail
    go_cut [18] (fun u wx => u = .int .i64 wv ∧ Fr0 W9 wx)
    case first =>
      clear HP9 F9 HN5 HS HD HU HM HA
      cases nk with
      | true =>
        have HW1 : Hid (wv = 1) := by
          show _ = _
          rw [← HWV.out]
          refine frm1 ?_
          have h := HNK.out
          rcases Bool.eq_false_or_eq_true kx with e | e
          · right
            intro hk
            rw [e, Bool.not_true, Bool.false_or, ← HKY.out, decide_eq_true (show 0 ≤ y ∧ y ≤ (L.length : Int) from hk)] at h
            cases h
          · left
            intro hk
            have := HKX.out
            rw [e, decide_eq_true (show 0 ≤ x ∧ x ≤ (L.length : Int) from hk)] at this
            cases this
        go_wp2_with fail
        go_meet
        exact ⟨by rw [HW1.out], Fr0.refl W9⟩
      | false =>
        have hkx : isKnown L x := by
          have h := HNK.out
          have h2 := HKX.out
          cases kx with
          | false => cases h
          | true => exact (of_decide_eq_true h2 : 0 ≤ x ∧ x ≤ (L.length : Int))
        have hky : isKnown L y := by
          have h := HNK.out
          have h2 := HKY.out
          cases ky with
          | false => cases kx <;> cases h
          | true => exact (of_decide_eq_true h2 : 0 ≤ y ∧ y ≤ (L.length : Int))
        clear HNK HKX HKY
        by_cases x0 : x = 0
        · have q5 : (x != 0) = false := by simp [x0]
          have hnx : ¬ noSig L x := by rw [x0]; exact noSig_zero L
          clear x0
          by_cases y0 : y = 0
          · have q7 : (y != 0) = false := by simp [y0]
            have HW0 := Lib.hid (HWV.out.symm.trans (frm0 hkx hky hnx (by rw [y0]; exact noSig_zero L)))
            clear y0
            go_wp2_with fail
            go_meet
            exact ⟨by rw [HW0.out], Fr0.refl W9⟩
          · have q7 : (y != 0) = true := by simpa using y0
            obtain ⟨yb, yoff, ey, lyb, cy, y1, y2⟩ := key_cell HR9.out hky y0
            subst ey
            have y3 : y.toNat = y.toNat := rfl
            obtain ⟨ly, hly⟩ : ∃ z, klev L y = z := ⟨_, rfl⟩
            rw [hly] at cy
            by_cases ny : ly < 0
            · have q8 : decide (ly < 0) = true := decide_eq_true ny
              have HW4 := Lib.hid (HWV.out.symm.trans (frm4 hkx hky (.inr ⟨y0, by rw [hly]; exact ny⟩)))
              clear hly ny y0
              go_wp2_with fail
              go_meet
              exact ⟨by rw [HW4.out], Fr0.refl W9⟩
            · have q8 : decide (ly < 0) = false := decide_eq_false ny
              have HW0 := Lib.hid (HWV.out.symm.trans (frm0 hkx hky hnx (fun h => ny (by have := h.2; rwa [hly] at this))))
              clear hly ny y0
              go_wp2_with fail
              go_meet
              exact ⟨by rw [HW0.out], Fr0.refl W9⟩
        · have q5 : (x != 0) = true := by simpa using x0
          obtain ⟨xb, xoff, ex, lxb, cx, x1, x2⟩ := key_cell HR9.out hkx x0
          subst ex
          obtain ⟨lx, hlx⟩ : ∃ z, klev L x = z := ⟨_, rfl⟩
          rw [hlx] at cx
          by_cases nx : lx < 0
          · have q6 : decide (lx < 0) = true := decide_eq_true nx
            have HW4 := Lib.hid (HWV.out.symm.trans (frm4 hkx hky (.inl ⟨x0, by rw [hlx]; exact nx⟩)))
            clear hlx nx x0
            go_wp2_with fail
            go_meet
            exact ⟨by rw [HW4.out], Fr0.refl W9⟩
          · have q6 : decide (lx < 0) = false := decide_eq_false nx
            have hnx : ¬ noSig L x := fun h => nx (by have := h.2; rwa [hlx] at this)
            clear hlx nx x0
            by_cases y0 : y = 0
            · have q7 : (y != 0) = false := by simp [y0]
              have HW0 := Lib.hid (HWV.out.symm.trans (frm0 hkx hky hnx (by rw [y0]; exact noSig_zero L)))
              clear y0
              go_wp2_with fail
              go_meet
              exact ⟨by rw [HW0.out], Fr0.refl W9⟩
            · have q7 : (y != 0) = true := by simpa using y0
              obtain ⟨yb, yoff, ey, lyb, cy, y1, y2⟩ := key_cell HR9.out hky y0
              cases ey
              have y3 : y.toNat = y.toNat := rfl
              obtain ⟨ly, hly⟩ : ∃ z, klev L y = z := ⟨_, rfl⟩
              rw [hly] at cy
              by_cases ny : ly < 0
              · have q8 : decide (ly < 0) = true := decide_eq_true ny
                have HW4 := Lib.hid (HWV.out.symm.trans (frm4 hkx hky (.inr ⟨y0, by rw [hly]; exact ny⟩)))
                clear hly ny y0
                go_wp2_with fail
                go_meet
                exact ⟨by rw [HW4.out], Fr0.refl W9⟩
              · have q8 : decide (ly < 0) = false := decide_eq_false ny
                have HW0 := Lib.hid (HWV.out.symm.trans (frm0 hkx hky hnx (fun h => ny (by have := h.2; rwa [hly] at this))))
                clear hly ny y0
                go_wp2_with fail
                go_meet
                exact ⟨by rw [HW0.out], Fr0.refl W9⟩
    case rest =>
    obtain ⟨rfl, hf10⟩ := hcut
    rename World => W10
    have HP10 := Lib.hid (HP9.out.kept0 hf10)
    have F10 := Lib.hid (F9.out.trans hf10)
    clear hf10 HP9 F9 HR9
    obtain ⟨N1, N2, N3⟩ : Hid (∀ W, Calls Tryz.prog 12 #[.pointer none, .int .i64 x, .int .i64 y] W fun e w' => e = .returned (.tuple #[.int .i64 0, .iface 43 (.int .i64 5)]) ∧ Fr0 W w') ∧
      Hid (∀ W, Calls Tryz.prog 14 #[.pointer none, .int .i64 x, .int .i64 y] W fun e w' => e = .returned (.tuple #[.int .i64 0, .iface 43 (.int .i64 5)]) ∧ Fr0 W w') ∧
      Hid (∀ W, Calls Tryz.prog 13 #[.pointer none, .int .i64 x, .int .i64 y] W fun e w' => e = .returned (.tuple #[.slice none 0 0, .iface 43 (.int .i64 5)]) ∧ Fr0 W w') :=
      ⟨fun W => (df_nil W x y).1, fun W => (df_nil W x y).2.1, fun W => (df_nil W x y).2.2⟩
    go_wp2_with fail
    refine (N1.out _).mono ?_
    rintro e w11 ⟨rfl, hf11⟩
    go_wp2_with fail
    refine (N3.out _).mono ?_
    rintro e w12 ⟨rfl, hf12⟩
    go_wp2_with fail
    refine (N2.out _).mono ?_
    rintro e w13 ⟨rfl, hf13⟩
    have hff := (hf11.trans hf12).trans hf13
    have HP13 := Lib.hid (HP10.out.kept0 hff)
    have F13 := Lib.hid (F10.out.trans hff)
    clear hff hf11 hf12 hf13 HP10 F10 N1 N2 N3
    go_wp2_with fail
    refine (base_Is 5 _ (by omega)).mono ?_
    rintro e w14 ⟨rfl, rfl⟩
    go_wp2_with fail
    refine (base_Is 5 _ (by omega)).mono ?_
    rintro e w14 ⟨rfl, rfl⟩
    go_wp2_with fail
    refine (base_Is 5 _ (by omega)).mono ?_
    rintro e w14 ⟨rfl, rfl⟩
    by_cases w0 : wv = 0
    · subst w0
      go_wp2_with fail
      go_ret
      exact ⟨rfl, F13.out⟩
    · have qw : (wv == 0) = false := beq_eq_false_iff_ne.2 w0
      have CC : Hid (∀ W T', Pq w.heap.size W pp tp p mb 1048576 L T' → Calls Tryz.prog 33 #[.pointer (some ⟨pp, 0, none⟩), .int .i64 x, .int .i64 y] W (CePost w.heap.size W pp tp p mb 1048576 L wv)) := fun W T' h => by
        have := frm_cmp (x := x) (y := y) h (by rw [HWV.out]; exact w0)
        rwa [HWV.out] at this
      have W0 := Lib.hid w0
      clear w0
      go_wp2_with fail
      refine (df_Distance_no (CC.out _ _ HP13.out)).mono ?_
      rintro e w15 ⟨rfl, ⟨T15, hp15⟩, hx15⟩
      have HP15 := Lib.hid hp15
      have F15 := Lib.hid (Kx.all0 F13.out hx15)
      clear hp15 hx15 HP13 F13
      go_wp2_with fail
      refine (df_Of_no (CC.out _ _ HP15.out)).mono ?_
      rintro e w16 ⟨rfl, ⟨T16, hp16⟩, hx16⟩
      have HP16 := Lib.hid hp16
      have F16 := Lib.hid (Kx.all0 F15.out hx16)
      clear hp16 hx16 HP15 F15
      go_wp2_with fail
      refine (df_Ratio_no (CC.out _ _ HP16.out)).mono ?_
      rintro e w17 ⟨rfl, ⟨T17, hp17⟩, hx17⟩
      have F17 := Lib.hid (Kx.all0 F16.out hx17)
      clear hp17 hx17 HP16 F16
      go_wp2_with fail
      refine (base_Is wv _ W0.out).mono ?_
      rintro e w18 ⟨rfl, rfl⟩
      go_wp2_with fail
      refine (base_Is wv _ W0.out).mono ?_
      rintro e w18 ⟨rfl, rfl⟩
      go_wp2_with fail
      refine (base_Is wv _ W0.out).mono ?_
      rintro e w18 ⟨rfl, rfl⟩
      go_wp2_with fail
      go_ret
      exact ⟨rfl, F17.out⟩
  · have q1 : decide ((30 : Int) < (ms.length : Int)) = true := decide_eq_true (by omega)
    go_enter Tryz.func3, Tryz.ntmps3
    go_wp2_with fail
    refine CP.out.mono ?_
    rintro e w1 ⟨pp0, tp0, p0, mb0, L0, T0, rfl, _, hf1, _⟩
    go_wp2_with fail
    go_ret
    exact ⟨rfl, hf1⟩

end Go.Proofs.YtodmpcnpedpheaaGreatDoor

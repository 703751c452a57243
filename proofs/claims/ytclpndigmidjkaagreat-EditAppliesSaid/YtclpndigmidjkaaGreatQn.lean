/- edit.Apply where the law's bad is not 0. -/
import Derived.Test.YtclpndigmidjkaaGreatQm
import Derived.Test.YtclpndigmidjkaaGreatQj
import Derived.Test.YtclpndigmidjkaaGreatQk
import Derived.Test.YtclpndigmidjkaaGreatQEf4
set_option linter.unusedSimpArgs false
set_option linter.unusedVariables false
namespace Go.Proofs.YtclpndigmidjkaaGreat
open Go.RowKit

theorem apply_bad {B : Nat} {w : World} {p mb : Nat} {most : Int} {L : List Ent} (hS : Sto B w p mb most L) (hO : SOk L) (id k a n t x : Int) (h : (badE L id k a n t x).1 ≠ 0) :
    Calls Tryz.prog 43 #[.pointer (some ⟨p, 0, none⟩), .int .i64 id, .agg #[.int .i64 k, .int .i64 a, .int .i64 n, .int .i64 t, .int .i64 x]] w fun e w' => e = .returned (.tuple #[.int .i64 0, errV (badE L id k a n t x).1]) ∧ Fr0 w w' := by
  rw [show errV (badE L id k a n t x).1 = .iface 52 (.int .i64 (badE L id k a n t x).1) from if_neg h]
  by_cases c1 : knownB L id = false ∨ knownB L x = false
  · have e : badE L id k a n t x = (1, 0) := if_pos c1
    rw [e]
    refine edit_Apply_unknown hS id k a n t x ?_
    rcases c1 with c | c
    · exact .inl fun hk => by rw [(knownB_iff L id).2 hk] at c; cases c
    · exact .inr fun hk => by rw [(knownB_iff L x).2 hk] at c; cases c
  · have k1 : isKnown L id := (knownB_iff L id).1 (by cases hb : knownB L id; exact absurd (.inl hb) c1; rfl)
    have k2 : isKnown L x := (knownB_iff L x).1 (by cases hb : knownB L x; exact absurd (.inr hb) c1; rfl)
    by_cases c2 : frmB k n t x = false ∨ (entAt L id).even = false ∨ (entAt L x).even = false
    · have e : badE L id k a n t x = (4, 0) := by unfold badE; rw [if_neg c1, if_pos c2]
      rw [e]
      cases hf : frmB k n t x with
      | false => exact edit_Apply_form hS id k a n t x k1 k2 hf
      | true => exact edit_Apply_uneven hS id k a n t x k1 k2 hf (by rw [hf] at c2; simpa using c2)
    · have e : badE L id k a n t x = (errE (entAt L id).wt.len k a n t x (entAt L x).wt.len, valE (entAt L id).wt.len k a n t x (entAt L x).wt.len) := by unfold badE; rw [if_neg c1, if_neg c2]
      rw [e] at h ⊢
      exact edit_Apply_len hS hO id k a n t x k1 k2 (by cases hb : frmB k n t x; exact absurd (.inl hb) c2; rfl) (by cases hb : (entAt L id).even; exact absurd (.inr (.inl hb)) c2; rfl) (by cases hb : (entAt L x).even; exact absurd (.inr (.inr hb)) c2; rfl) h

/-- Where bad is 0 all conditions hold. -/
theorem bad_none {L : List Ent} {id k a n t x : Int} (h : (badE L id k a n t x).1 = 0) : isKnown L id ∧ isKnown L x ∧ frmB k n t x = true ∧ (entAt L id).even = true ∧ (entAt L x).even = true ∧ witB (entAt L id).wt.len k a n t = true ∧ totE (entAt L id).wt.len k n (entAt L x).wt.len ≤ 1152921504606846976 ∧ (badE L id k a n t x).2 = totE (entAt L id).wt.len k n (entAt L x).wt.len := by
  by_cases c1 : knownB L id = false ∨ knownB L x = false
  · have e : badE L id k a n t x = (1, 0) := if_pos c1
    rw [e] at h; exact absurd h (by decide)
  by_cases c2 : frmB k n t x = false ∨ (entAt L id).even = false ∨ (entAt L x).even = false
  · have e : badE L id k a n t x = (4, 0) := by unfold badE; rw [if_neg c1, if_pos c2]
    rw [e] at h; exact absurd h (by decide)
  have e : badE L id k a n t x = (errE (entAt L id).wt.len k a n t x (entAt L x).wt.len, valE (entAt L id).wt.len k a n t x (entAt L x).wt.len) := by unfold badE; rw [if_neg c1, if_neg c2]
  rw [e] at h ⊢
  have hf : frmB k n t x = true := by cases hb : frmB k n t x; exact absurd (.inl hb) c2; rfl
  dsimp only at h ⊢
  have h' := h
  unfold errE at h'
  rw [hf, if_neg (by decide)] at h'
  cases hw : witB (entAt L id).wt.len k a n t with
  | false => rw [hw, if_pos rfl] at h'; exact absurd h' (by decide)
  | true =>
    rw [hw, if_neg (by decide)] at h'
    have ht : ¬ 1152921504606846976 < totE (entAt L id).wt.len k n (entAt L x).wt.len := fun hh => by rw [if_pos hh] at h'; exact absurd h' (by decide)
    refine ⟨(knownB_iff L id).1 (by cases hb : knownB L id; exact absurd (.inl hb) c1; rfl), (knownB_iff L x).1 (by cases hb : knownB L x; exact absurd (.inr hb) c1; rfl), hf, by cases hb : (entAt L id).even; exact absurd (.inr (.inl hb)) c2; rfl, by cases hb : (entAt L x).even; exact absurd (.inr (.inr hb)) c2; rfl, rfl, by omega, ?_⟩
    unfold valE
    rw [h, if_pos rfl]

end Go.Proofs.YtclpndigmidjkaaGreat

/- The walk of EditApplies, its first half: the edits that the document refuses. -/
set_option linter.unusedSimpArgs false
set_option linter.unusedVariables false
namespace Go.Proofs.YtclpndigmidjkaaGreat
open Go.RowKit

theorem tri8 {m : Nat} (h : m ≤ 8) : tri (m + 1) ≤ 36 := by
  obtain rfl | rfl | rfl | rfl | rfl | rfl | rfl | rfl | rfl : m = 0 ∨ m = 1 ∨ m = 2 ∨ m = 3 ∨ m = 4 ∨ m = 5 ∨ m = 6 ∨ m = 7 ∨ m = 8 := by omega
  all_goals decide

theorem IsBound.uniq {l : Int} {D D' : Nat} (h : IsBound l D) (h' : IsBound l D') : D ≤ D' := by
  rcases Nat.lt_or_ge D' D with c | c
  · have h3 := lst_mono (show D' + 1 ≤ D from c)
    have h2 := h'.2
    rcases h.1 with h1 | h1
    · omega
    · omega
  · exact c

theorem isBound_ex (l : Int) (h : l ≤ 1152921504606846976) : ∃ D, IsBound l D := by
  have key : ∀ N : Nat, l < (lst (N + 1) : Int) → ∃ D, IsBound l D := by
    intro N
    induction N with
    | zero => intro h; exact ⟨0, .inl rfl, h⟩
    | succ N ih =>
      intro h
      by_cases c : l < (lst (N + 1) : Int)
      · exact ih c
      · exact ⟨N + 1, .inr (by omega), h⟩
  exact key 86 (by show l < (lst 87 : Int); rw [lst87]; omega)

set_option maxRecDepth 100000 in
set_option maxHeartbeats 4000000 in
theorem applies_small {w : World} {a : Option Addr} {cap : Nat} {ms : List Mk} (hA : RG Mk.vals 5 w.heap.size w a ms) (hm : ∀ m ∈ ms, m.Ok) (hl : ms.length ≤ 8) (num : Int) (hnum : i64P num) (k at_ n t pk : Int) (hpk : i64P pk) :
    Calls Tryz.prog 7 #[.slice a ms.length cap, .int .i64 num, .agg #[.int .i64 k, .int .i64 at_, .int .i64 n, .int .i64 t, .int .i64 pk]] w fun e w' => e = .returned (.bool true) ∧ Fr0 w w' := by
  have hf0 : Fr0 w (w.alloc (.cells #[.int .i64 k, .int .i64 at_, .int .i64 n, .int .i64 t, .int .i64 pk] 85 (0, 0))) := (Fr0.refl w).alloc _
  have CB := Lib.hid (law36_begun (cap := cap) ((hA.kept0 hf0).up (Fr.size hf0)) hl hm)
  have HB0 := Lib.hid (alloc_at w (.cells #[.int .i64 k, .int .i64 at_, .int .i64 n, .int .i64 t, .int .i64 pk] 85 (0, 0)) _ rfl)
  have HF0 := Lib.hid hf0
  have HRL := Lib.hid (allL_ok ms hm ms.length (Nat.le_refl _)).2.2.2
  have HL0 := Lib.hid (allL_ok ms hm ms.length (Nat.le_refl _)).2.2.1
  have HNUM := Lib.hid hnum
  have HPK := Lib.hid hpk
  have q1 : decide ((8 : Int) < (ms.length : Int)) = false := decide_eq_false (by omega)
  clear hA hm hf0 hnum hpk
  go_enter Tryz.func7, Tryz.ntmps7
  go_wp2_with fail
  refine CB.out.mono ?_
  rintro e w2 ⟨q, p, mb, rv, lv, va, vi, L, ids, rfl, hB⟩
  have hb2 := hB.wd.fr.kept HB0.out
  have F2 := Lib.hid (HF0.out.trans hB.wd.fr)
  have HRL2 := HRL.out
  rw [List.take_length] at HRL2
  have CT := Lib.hid (law36_text hB (by omega) (by omega) (by omega) num HNUM.out.1 HNUM.out.2)
  have CE := Lib.hid (fun W (hW : Fr0 w2 W) => law36_edit (hB.kept0 hW) (by omega) (by omega) (by omega) k at_ n t pk HPK.out.1 HPK.out.2)
  have HB := Lib.hid hB
  have H2 := Lib.hid hb2
  obtain ⟨r1, r2, r3, r4, r5, lr⟩ := cells5 hb2
  clear hB hb2 CB HB0 HF0
  go_wp2_with fail
  refine CT.out.mono ?_
  rintro e w3 ⟨id, idy, rfl, f3⟩
  clear CT r1 r2 r3 r4 r5 lr
  obtain ⟨r1, r2, r3, r4, r5, lr⟩ := cells5 (f3.kept H2.out)
  have F3 := Lib.hid f3
  clear f3
  go_wp2_with fail
  refine (CE.out _ F3.out).mono ?_
  rintro e w3' ⟨x, y, rfl, f3'⟩
  clear CE r1 r2 r3 r4 r5 lr
  have HB4 := Lib.hid (HB.out.kept0 ((F3.out.trans f3').alloc (.cells #[.int .i64 k, .int .i64 at_, .int .i64 n, .int .i64 t, .int .i64 x] 78 (0, 0))))
  have F4 := Lib.hid (F2.out.trans ((F3.out.trans f3').alloc (.cells #[.int .i64 k, .int .i64 at_, .int .i64 n, .int .i64 t, .int .i64 x] 78 (0, 0))))
  have hb4 := alloc_at w3' (.cells #[.int .i64 k, .int .i64 at_, .int .i64 n, .int .i64 t, .int .i64 x] 78 (0, 0)) _ rfl
  clear f3' F2 F3 H2 HB
  go_upto_region 9 with fail
  generalize w3'.alloc (.cells #[.int .i64 k, .int .i64 at_, .int .i64 n, .int .i64 t, .int .i64 x] 78 (0, 0)) = w4 at *
  generalize w3'.heap.size = E at *
  have HKEY : Hid (∀ W, Fr0 w4 W → Fr0 w4 W ∧ W.cell? ⟨q, 0, none⟩ = some (.pointer (some ⟨p, 0, none⟩)) ∧ W.cell? ⟨E, 0, none⟩ = some (.int .i64 k) ∧ W.cell? ⟨E, 1, none⟩ = some (.int .i64 at_) ∧ W.cell? ⟨E, 2, none⟩ = some (.int .i64 n) ∧ W.cell? ⟨E, 3, none⟩ = some (.int .i64 t) ∧ W.cell? ⟨E, 4, none⟩ = some (.int .i64 x)) := fun W hW => ⟨hW, (HB4.out.wd.kept0 hW).front.1, (cells5 (hW.kept hb4)).1, (cells5 (hW.kept hb4)).2.1, (cells5 (hW.kept hb4)).2.2.1, (cells5 (hW.kept hb4)).2.2.2.1, (cells5 (hW.kept hb4)).2.2.2.2.1⟩
  have H4 := Lib.hid hb4
  obtain ⟨r1, r2, r3, r4, r5, lr⟩ := cells5 hb4
  obtain ⟨c0, c1, c2, c3, c4, cf, lq⟩ := HB4.out.wd.front
  have hLlen : L.length ≤ 600000 := by
    have h1 := HB4.out.gr.len
    have h2 := HL0.out
    rw [List.take_length] at h2
    have h3 : tri (ms.length + 1) ≤ 36 := tri8 hl
    omega
  have CLEN := Lib.hid (fun W (hW : Fr0 w4 W) => sto_Len (HB4.out.wd.kept0 hW).st)
  have CBAD := Lib.hid (fun W (hW : Fr0 w4 W) => law36_bad (HB4.out.wd.kept0 hW) HB4.out.gr.sok HB4.out.gr.dok (by omega) id k at_ n t x)
  clear hb4
  go_wp2_with fail
  refine (CLEN.out _ (Fr0.refl _)).mono ?_
  rintro e w5 ⟨rfl, rfl⟩
  go_wp2_with fail
  refine (CBAD.out _ (Fr0.refl _)).mono ?_
  rintro e w6 ⟨rfl, hf6⟩
  clear r1 r2 r3 r4 r5 lr c0 c1 c2 c3 c4 cf lq CLEN CBAD
  obtain ⟨_, r0, r1, r2, r3, r4, r5⟩ := HKEY.out _ hf6
  have lr := lt_of_block (hf6.kept H4.out)
  have lq := (HB4.out.wd.kept0 hf6).front.2.2.2.2.2.2
  have HF6 := Lib.hid hf6
  clear hf6
  by_cases hbad : (badE L id k at_ n t x).1 = 0
  · obtain ⟨hk1, hk2, hfm, hev1, hev2, hwt, htot, hV⟩ := bad_none hbad
    have hO := HB4.out.gr.sok
    have hDk := HB4.out.gr.dok
    have hb : BalZ L id (txt L id) (entAt L id).depth := ⟨hk1, rfl, hev1, rfl⟩
    have hx : BalZ L x (txt L x) (entAt L x).depth := ⟨hk2, rfl, hev2, rfl⟩
    have hlen := hb.len hDk hO
    have hlen2 := hx.len hDk hO
    have hl0 := (hO.at id hk1).1.len0
    have hl1 := (hO.at id hk1).1.len1
    rw [← hlen, ← hlen2] at htot hV
    rw [← hlen] at hwt
    rw [hbad, hV]
    obtain ⟨D, hD⟩ := isBound_ex (max ((txt L id).length : Int) (totE (txt L id).length k n (txt L x).length)) (by omega)
    have hD86 := hD.le (by omega)
    have hm1 : max ((txt L id).length : Int) (totE (txt L id).length k n (txt L x).length) ≤ 1152921504606846976 := by omega
    have hdd := (hb.deep hDk hO (D := D) (by have := hD.2; omega)).2
    have hR : Room (w.alloc (.cells #[.int .i64 k, .int .i64 at_, .int .i64 n, .int .i64 t, .int .i64 pk] 85 (0, 0))).heap.size w4 p mb 1048576 L (44 * (entAt L id).depth.toNat + 4 + 4 * (3 * D + 1)) := ⟨HB4.out.wd.st, HB4.out.wd.fr.size', hO, hDk, by omega, by omega⟩
    have CA := Lib.hid (fun W (hW : Fr0 w4 W) => edit_Apply_ok D (hR.kept0 hW) hb hx hfm hwt htot (by have := hD.2; omega))
    have HBI := Lib.hid hD
    have HLN := Lib.hid hlen
    have HLN2 := Lib.hid hlen2
    have F0 := Lib.hid ((Fr0.refl w).alloc (.cells #[.int .i64 k, .int .i64 at_, .int .i64 n, .int .i64 t, .int .i64 pk] 85 (0, 0)))
    clear hR hD hlen hlen2 hV hbad
    generalize w.alloc (.cells #[.int .i64 k, .int .i64 at_, .int .i64 n, .int .i64 t, .int .i64 pk] 85 (0, 0)) = w0 at *
    have HKK : Hid (∀ W, Kp w0.heap.size mb w4 W → Kp w0.heap.size mb w4 W ∧ W.cell? ⟨q, 0, none⟩ = some (.pointer (some ⟨p, 0, none⟩)) ∧ W.cell? ⟨E, 0, none⟩ = some (.int .i64 k) ∧ W.cell? ⟨E, 1, none⟩ = some (.int .i64 at_) ∧ W.cell? ⟨E, 2, none⟩ = some (.int .i64 n) ∧ W.cell? ⟨E, 3, none⟩ = some (.int .i64 t) ∧ W.cell? ⟨E, 4, none⟩ = some (.int .i64 x)) := fun W hW => by
      have e1 := hW.cells _ _ _ _ H4.out (by decide) (by decide)
      have e2 := hW.cells _ _ _ _ HB4.out.wd.ptr (by decide) (by decide)
      exact ⟨hW, by rw [cell_of_block e2]; rfl, (cells5 e1).1, (cells5 e1).2.1, (cells5 e1).2.2.1, (cells5 e1).2.2.2.1, (cells5 e1).2.2.2.2.1⟩
    go_upto_region 11 with fail
    go_cut [16, 17] (fun s16 s17 wx => s17 = .nilIface ∧ ∃ L' x' d' c, s16 = .int .i64 x' ∧ Sto w0.heap.size wx p mb 1048576 L' ∧ Kp w0.heap.size mb w4 wx ∧ Grows L L' c ∧ BalZ L' x' (arrT k at_ n t (txt L id) (txt L x)).flatten d' ∧ d' ≤ D ∧ c ≤ 44 * (entAt L id).depth.toNat + 4 + 4 * (3 * D + 1))
    case first =>
      go_region_held3 (fun w' => Kp w0.heap.size mb w4 w' ∧ w'.cell? ⟨q, 0, none⟩ = some (.pointer (some ⟨p, 0, none⟩)) ∧ w'.cell? ⟨E, 0, none⟩ = some (.int .i64 k) ∧ w'.cell? ⟨E, 1, none⟩ = some (.int .i64 at_) ∧ w'.cell? ⟨E, 2, none⟩ = some (.int .i64 n) ∧ w'.cell? ⟨E, 3, none⟩ = some (.int .i64 t) ∧ w'.cell? ⟨E, 4, none⟩ = some (.int .i64 x))
        (exact HKK.out _ (by first | exact Kp.of0 HF6.out | exact Kp.of0 HF6.out.drew | exact hff3))
        ((first
          | (go_at_call 43; (with_reducible refine Calls.mono (CA.out _ (by first | exact HF6.out.drew | exact HF6.out)) ?_); rintro e w7 ⟨L', x', d', c, rfl, hs7, hk7, hg7, hb7, hc7⟩; have hff3 : Kp w0.heap.size mb w4 w7 := (by first | exact (Kp.of0 HF6.out.drew).trans hk7 | exact (Kp.of0 HF6.out).trans hk7); clear hk7)))
      all_goals
        go_wp2_with fail
        go_meet
        exact ⟨rfl, L', x', d', c, rfl, hs7, by assumption, hg7, hb7, hc7⟩
    case rest =>
      obtain ⟨rfl, L', x', d', c, rfl, hs7, hk7, hg7, hb7, hd7, hc7⟩ := hcut
      have HW7 := Lib.hid (HB4.out.wd.keptK hk7 hs7)
      have hLb : L'.length ≤ 1000000 := by have := hg7.len; omega
      have hbid : BalZ L' id (txt L id) (entAt L id).depth := by
        obtain ⟨M, hM⟩ := hg7.ext
        rw [hM]
        exact hb.more hDk M
      have CF := Lib.hid (fun W (hW : Fr0 _ W) => law36_fits (HW7.out.kept0 hW) hg7.sok hg7.dok hLb hb7)
      have CLX := Lib.hid (fun W (hW : Fr0 _ W) => law36_length (HW7.out.kept0 hW) x' hb7.known)
      have CLI := Lib.hid (fun W (hW : Fr0 _ W) => law36_length (HW7.out.kept0 hW) id hbid.known)
      have CN7 := Lib.hid (fun W (hW : Fr0 _ W) => sto_Len (HW7.out.kept0 hW).st)
      have hbx : BalZ L' x (txt L x) (entAt L x).depth := by
        obtain ⟨M, hM⟩ := hg7.ext
        rw [hM]
        exact hx.more hDk M
      have CP1 := Lib.hid (fun W (hW : Fr0 _ W) => law36_plain (HW7.out.kept0 hW).st hg7.sok hg7.dok hLb (HW7.out.kept0 hW).front.1 (HW7.out.kept0 hW).front.2.2.2.2.2.2 hbid)
      have CP2 := Lib.hid (fun W (hW : Fr0 _ W) => law36_plain (HW7.out.kept0 hW).st hg7.sok hg7.dok hLb (HW7.out.kept0 hW).front.1 (HW7.out.kept0 hW).front.2.2.2.2.2.2 hbx)
      have CP3 := Lib.hid (fun W (hW : Fr0 _ W) => law36_plain (HW7.out.kept0 hW).st hg7.sok hg7.dok hLb (HW7.out.kept0 hW).front.1 (HW7.out.kept0 hW).front.2.2.2.2.2.2 hb7)
      have CR := Lib.hid (fun (W : World) (ta pa : Option Addr) (tc pc : Nat) (hT : TextA W ta tc (txt L id)) (hU : TextA W pa pc (txt L x)) (hl1 : (txt L id).length ≤ 2000) (hl2 : (txt L x).length ≤ 2000) => ref36_Apply (x := x) hT hU hfm hwt (by omega) (by omega))
      have al := arr_len (u := txt L x) hfm hwt (fun e => by rw [e]; rfl)
      rw [← hb7.len hg7.dok hg7.sok, al] at CLX
      rw [← hbid.len hg7.dok hg7.sok] at CLI
      have CBO := Lib.hid (fun W => ref15_Bound (max ((txt L id).length : Int) (totE (txt L id).length k n (txt L x).length)) W hm1 (by omega))
      clear r0 r1 r2 r3 r4 r5 lr lq HKEY HF6 CA
      obtain ⟨_, r0, r1, r2, r3, r4, r5⟩ := HKK.out _ hk7
      have lr := lt_of_block (hk7.cells _ _ _ _ H4.out (by decide) (by decide))
      have lq := HW7.out.front.2.2.2.2.2.2
      have HAL := Lib.hid al
      clear al
      generalize ((txt L id).length : Int) = li at *
      generalize totE li k n ((txt L x).length : Int) = tt at *
      go_wp2_with fail
      refine (CLI.out _ (Fr0.refl _)).mono ?_
      rintro e w8 ⟨rfl, f8⟩
      go_wp2_with fail
      refine (CF.out _ f8).mono ?_
      rintro e w9 ⟨rfl, f9⟩
      have F9 := f8.trans f9
      go_wp2_with fail
      refine (CLX.out _ F9).mono ?_
      rintro e w10 ⟨rfl, f10⟩
      have F10 := F9.trans f10
      have r0' := (F10.cell q _ lq).trans r0
      have lq' : q < w10.heap.size := by have := Fr.size F10; omega
      go_wp2_with fail
      refine (CN7.out _ F10).mono ?_
      rintro e w11 ⟨rfl, rfl⟩
      go_wp2_with fail
      refine (CBO.out _).mono ?_
      rintro e w12 ⟨⟨D', rfl, hD'⟩, rfl⟩
      have HBD := Lib.hid hD'
      clear hD'
      have hle := HBI.out.uniq HBD.out
      have hgl := hg7.len
      have hD87 := HBD.out.le hm1
      have hLx : L.length ≤ L'.length := by obtain ⟨M, hM⟩ := hg7.ext; rw [hM, List.length_append]; omega
      have y1 : decide (256 * ((D' : Int) + 1) < (L'.length : Int) - (L.length : Int)) = false := decide_eq_false (by omega)
      have y2 := IntWalk.i64_in ((L'.length : Int) - (L.length : Int)) (by omega)
      have y3 := IntWalk.i64_in ((D' : Int) + 1) (by omega)
      have y4 := IntWalk.i64_in (256 * ((D' : Int) + 1)) (by omega)
      clear hle hgl
      go_wp2_with fail
      refine (CP1.out _ F10).mono ?_
      rintro e w13 (⟨hl1, v1, rfl, ho1⟩ | ⟨hl1, rfl, f13⟩)
      · obtain ⟨a1, cap1, rfl, hT1⟩ := ho1.text
        have HL1 := Lib.hid hl1
        have HT1 := Lib.hid hT1
        have F13 := F10.trans ho1.fr
        have e5 := (F13.cell E 4 lr).trans r5
        have lr3 : E < w13.heap.size := by have := Fr.size F13; omega
        clear ho1 hl1 hT1
        go_wp2_with fail
        refine (CP2.out _ F13).mono ?_
        rintro e w14 (⟨hl2, v2, rfl, ho2⟩ | ⟨hl2, rfl, f14⟩)
        · obtain ⟨a2, cap2, rfl, hT2⟩ := ho2.text
          have HL2 := Lib.hid hl2
          have HT2 := Lib.hid hT2
          have HT1' := Lib.hid (HT1.out.kept0 ho2.fr)
          have F14 := F13.trans ho2.fr
          clear ho2 hl2 hT2
          by_cases ht : tt ≤ 2000
          · have y5 : decide ((2000 : Int) < tt) = false := decide_eq_false (by omega)
            have HTT := Lib.hid ht
            clear ht
            go_wp2_with fail
            refine (CP3.out _ F14).mono ?_
            rintro e w15 (⟨hl3, v3, rfl, ho3⟩ | ⟨hl3, rfl, f15⟩)
            · obtain ⟨a3, cap3, rfl, hT3⟩ := ho3.text
              have HT1'' := Lib.hid (HT1'.out.kept0 ho3.fr)
              have HT2' := Lib.hid (HT2.out.kept0 ho3.fr)
              have HT3 := Lib.hid hT3
              have F15 := F14.trans ho3.fr
              clear ho3 hl3 hT3 e5
              have e1 := (F15.cell E 0 lr).trans r1
              have e2 := (F15.cell E 1 lr).trans r2
              have e3 := (F15.cell E 2 lr).trans r3
              have e4 := (F15.cell E 3 lr).trans r4
              have e5 := (F15.cell E 4 lr).trans r5
              have lr5 : E < w15.heap.size := by have := Fr.size F15; omega
              have CA := Lib.hid (CR.out w15 a1 a2 cap1 cap2 HT1''.out HT2'.out HL1.out HL2.out)
              generalize (arrT k at_ n t (txt L id) (txt L x)).flatten = fl at *
              go_wp2_with fail
              refine CA.out.mono ?_
              rintro e w16 ⟨v4, rfl, ho4⟩
              obtain ⟨a4, cap4, rfl, hT4⟩ := ho4.text
              have CB := Lib.hid (base_Bytes_same (HT3.out.kept0 ho4.fr) hT4)
              have F16 := F15.trans ho4.fr
              clear ho4 hT4 e1 e2 e3 e4 e5
              go_wp2_with fail
              refine CB.out.mono ?_
              rintro e w17 ⟨rfl, f17⟩
              have F17 := F16.trans f17
              clear f17
              go_wp2_with fail
              go_ret
              exact ⟨by first | rfl | simp, (F0.out.trans HW7.out.fr).trans F17⟩
            · exfalso
              have h1 := HAL.out
              have h2 := HTT.out
              apply hl3
              omega
          · have y5 : decide ((2000 : Int) < tt) = true := decide_eq_true (by omega)
            clear ht
            go_wp2_with fail
            go_ret
            exact ⟨by first | rfl | simp, (F0.out.trans HW7.out.fr).trans F14⟩
        · have F14 := F13.trans f14
          clear f14 hl2
          go_wp2_with fail
          go_ret
          exact ⟨by first | rfl | simp, (F0.out.trans HW7.out.fr).trans F14⟩
      · have F13 := F10.trans f13
        have e5 := (F13.cell E 4 lr).trans r5
        have lr3 : E < w13.heap.size := by have := Fr.size F13; omega
        clear f13 hl1
        go_wp2_with fail
        refine (CP2.out _ F13).mono ?_
        rintro e w14 (⟨hl2, v2, rfl, ho2⟩ | ⟨hl2, rfl, f14⟩)
        · have F14 := F13.trans ho2.fr
          clear ho2 hl2
          go_wp2_with fail
          go_ret
          exact ⟨by first | rfl | simp, (F0.out.trans HW7.out.fr).trans F14⟩
        · have F14 := F13.trans f14
          clear f14 hl2
          go_wp2_with fail
          go_ret
          exact ⟨by first | rfl | simp, (F0.out.trans HW7.out.fr).trans F14⟩
  · have CA := Lib.hid (fun W (hW : Fr0 w4 W) => apply_bad (HB4.out.wd.kept0 hW).st HB4.out.gr.sok id k at_ n t x hbad)
    have z1 : ((badE L id k at_ n t x).1 == 0) = false := beq_eq_false_iff_ne.2 hbad
    generalize (badE L id k at_ n t x).1 = Z at *
    generalize (badE L id k at_ n t x).2 = V at *
    go_upto_region 11 with fail
    go_cut [16, 17] (fun s16 s17 wx => s16 = .int .i64 0 ∧ s17 = errV Z ∧ Fr0 w4 wx)
    case first =>
      go_region_held3 (fun w' => Fr0 w4 w' ∧ w'.cell? ⟨q, 0, none⟩ = some (.pointer (some ⟨p, 0, none⟩)) ∧ w'.cell? ⟨E, 0, none⟩ = some (.int .i64 k) ∧ w'.cell? ⟨E, 1, none⟩ = some (.int .i64 at_) ∧ w'.cell? ⟨E, 2, none⟩ = some (.int .i64 n) ∧ w'.cell? ⟨E, 3, none⟩ = some (.int .i64 t) ∧ w'.cell? ⟨E, 4, none⟩ = some (.int .i64 x))
        (exact HKEY.out _ (by first | exact HF6.out | exact HF6.out.drew | exact hff3))
        ((first
          | (go_at_call 43; (with_reducible refine Calls.mono (CA.out _ (by first | exact HF6.out.drew | exact HF6.out)) ?_); rintro e w7 ⟨rfl, hf7⟩; have hff3 : Fr0 w4 w7 := (by first | exact HF6.out.drew.trans hf7 | exact HF6.out.trans hf7); clear hf7)))
      all_goals
        go_wp2_with fail
        go_meet
        exact ⟨rfl, rfl, by assumption⟩
    case rest =>
      obtain ⟨rfl, rfl, hf9⟩ := hcut
      have CN := Lib.hid (fun W => base_NumV Z W)
      clear CA HKEY HF6 r0 r1 r2 r3 r4 r5 lr lq
      go_wp2_with fail
      refine (CN.out _).mono ?_
      rintro e w9 ⟨rfl, rfl⟩
      go_wp2_with fail
      go_ret
      exact ⟨by first | rfl | simp, F4.out.trans hf9⟩

end Go.Proofs.YtclpndigmidjkaaGreat

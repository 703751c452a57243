/- The walk of EditLengths. -/
import Derived.Test.YtclpndigmidjkaaGreatQi
import Derived.Test.YtclpndigmidjkaaGreatQh
import Derived.Test.YtclpndigmidjkaaGreatQb
import Derived.Deep.RegionHeld3
import Derived.Deep.DeepCutAuto
set_option linter.unusedSimpArgs false
set_option linter.unusedVariables false
namespace Go.Proofs.YtclpndigmidjkaaGreat
open Go.RowKit

theorem RG.up {α : Type} {vals : α → List Value} {size B B' : Nat} {w : World} {a : Option Addr} {xs : List α} (h : RG vals size B w a xs) (hB : B ≤ B') : RG vals size B' w a xs := by
  intro i hi
  obtain ⟨b, off, h1, h2, h3, h4⟩ := h i hi
  exact ⟨b, off, h1, h2, h3.imp (fun h => by omega) id, h4⟩

theorem base_NumV (n : Int) (w : World) : Calls Tryz.prog 19 #[errV n] w fun e w' => e = .returned (.int .i64 n) ∧ w = w' := by
  by_cases h : n = 0
  · subst h; exact base_Num_nil w
  · rw [show errV n = .iface 52 (.int .i64 n) from if_neg h]; exact base_Num n w

/-- What edit.Length answers. -/
def LenCase (L : List Ent) (l k a n t x v : Int) (ev : Value) : Prop :=
  ((l < 0 ∨ 1152921504606846976 < l ∨ ¬ isKnown L x) ∧ v = 0 ∧ ev = .iface 52 (.int .i64 1)) ∨
  ((0 ≤ l ∧ l ≤ 1152921504606846976 ∧ isKnown L x) ∧ v = valE l k a n t x (entAt L x).wt.len ∧ ev = errV (errE l k a n t x (entAt L x).wt.len))

theorem len_case {B : Nat} {w : World} {p mb : Nat} {L : List Ent} (hS : Sto B w p mb 1048576 L) (hO : SOk L) (l k a n t x : Int) :
    ∃ (v : Int) (ev : Value), Hid (∀ W, Fr0 w W → Calls Tryz.prog 37 #[.pointer (some ⟨p, 0, none⟩), .int .i64 l, .agg #[.int .i64 k, .int .i64 a, .int .i64 n, .int .i64 t, .int .i64 x]] W fun e w' => e = .returned (.tuple #[.int .i64 v, ev]) ∧ Fr0 W w') ∧ Hid (LenCase L l k a n t x v ev) := by
  by_cases h : l < 0 ∨ 1152921504606846976 < l
  · exact ⟨0, _, fun W _ => edit_Length_range l h _ _ _ _ _, .inl ⟨by omega, rfl, rfl⟩⟩
  · by_cases hk : isKnown L x
    · exact ⟨_, _, fun W hW => edit_Length_all (hS.kept0 hW) hO l k a n t x hk (by omega) (by omega), .inr ⟨⟨by omega, by omega, hk⟩, rfl, rfl⟩⟩
    · exact ⟨0, _, fun W hW => edit_Length_unknown (hS.kept0 hW) l k a n t x hk (by omega) (by omega), .inl ⟨.inr (.inr hk), rfl, rfl⟩⟩

set_option maxRecDepth 100000 in
set_option maxHeartbeats 4000000 in
theorem lengths_small {w : World} {a : Option Addr} {cap : Nat} {ms : List Mk} (hA : RG Mk.vals 5 w.heap.size w a ms) (hm : ∀ m ∈ ms, m.Ok) (hl : ms.length ≤ 8) (l : Int) (hlen : i64P l) (k at_ n t pk : Int) (hpk : i64P pk) :
    Calls Tryz.prog 6 #[.slice a ms.length cap, .int .i64 l, .agg #[.int .i64 k, .int .i64 at_, .int .i64 n, .int .i64 t, .int .i64 pk]] w fun e w' => e = .returned (.bool true) ∧ Fr0 w w' := by
  have hf0 : Fr0 w (w.alloc (.cells #[.int .i64 k, .int .i64 at_, .int .i64 n, .int .i64 t, .int .i64 pk] 85 (0, 0))) := (Fr0.refl w).alloc _
  have CB := Lib.hid (law36_begun (cap := cap) ((hA.kept0 hf0).up (Fr.size hf0)) hl hm)
  have HB0 := Lib.hid (alloc_at w (.cells #[.int .i64 k, .int .i64 at_, .int .i64 n, .int .i64 t, .int .i64 pk] 85 (0, 0)) _ rfl)
  have HF0 := Lib.hid hf0
  have HRL := Lib.hid (allL_ok ms hm ms.length (Nat.le_refl _)).2.2.2
  have hl3 := hlen.1
  have hl4 := hlen.2
  have HPK := Lib.hid hpk
  have q1 : decide ((8 : Int) < (ms.length : Int)) = false := decide_eq_false (by omega)
  clear hA hm hf0 hlen hpk
  go_enter Tryz.func6, Tryz.ntmps6
  go_wp2_with fail
  refine CB.out.mono ?_
  rintro e w2 ⟨q, p, mb, rv, lv, va, vi, L, ids, rfl, hB⟩
  have hb2 := hB.wd.fr.kept HB0.out
  have F2 := Lib.hid (HF0.out.trans hB.wd.fr)
  have CE := Lib.hid (law36_edit hB (by have := HRL.out; rw [List.take_length] at this; omega) (by omega) (by omega) k at_ n t pk HPK.out.1 HPK.out.2)
  have HB := Lib.hid hB
  obtain ⟨r1, r2, r3, r4, r5, lr⟩ := cells5 hb2
  clear hB hb2 CB HB0 HF0
  go_wp2_with fail
  refine CE.out.mono ?_
  rintro e w3 ⟨x, y, rfl, f3⟩
  clear CE r1 r2 r3 r4 r5 lr
  have HB4 := Lib.hid (HB.out.kept0 (f3.alloc (.cells #[.int .i64 k, .int .i64 at_, .int .i64 n, .int .i64 t, .int .i64 x] 78 (0, 0))))
  have F4 := Lib.hid (F2.out.trans (f3.alloc (.cells #[.int .i64 k, .int .i64 at_, .int .i64 n, .int .i64 t, .int .i64 x] 78 (0, 0))))
  have hb4 := alloc_at w3 (.cells #[.int .i64 k, .int .i64 at_, .int .i64 n, .int .i64 t, .int .i64 x] 78 (0, 0)) _ rfl
  clear f3 F2 HB
  go_upto_region 7 with fail
  generalize w3.alloc (.cells #[.int .i64 k, .int .i64 at_, .int .i64 n, .int .i64 t, .int .i64 x] 78 (0, 0)) = w4 at *
  generalize w3.heap.size = E at *
  have HKEY : Hid (∀ W, Fr0 w4 W → Fr0 w4 W ∧ W.cell? ⟨q, 0, none⟩ = some (.pointer (some ⟨p, 0, none⟩)) ∧ W.cell? ⟨E, 0, none⟩ = some (.int .i64 k) ∧ W.cell? ⟨E, 1, none⟩ = some (.int .i64 at_) ∧ W.cell? ⟨E, 2, none⟩ = some (.int .i64 n) ∧ W.cell? ⟨E, 3, none⟩ = some (.int .i64 t) ∧ W.cell? ⟨E, 4, none⟩ = some (.int .i64 x)) := fun W hW => ⟨hW, (HB4.out.wd.kept0 hW).front.1, (cells5 (hW.kept hb4)).1, (cells5 (hW.kept hb4)).2.1, (cells5 (hW.kept hb4)).2.2.1, (cells5 (hW.kept hb4)).2.2.2.1, (cells5 (hW.kept hb4)).2.2.2.2.1⟩
  have H4 := Lib.hid hb4
  obtain ⟨r1, r2, r3, r4, r5, lr⟩ := cells5 hb4
  obtain ⟨c0, c1, c2, c3, c4, cf, lq⟩ := HB4.out.wd.front
  clear hb4
  obtain ⟨v, ev, CLN, HCASE⟩ : ∃ (v : Int) (ev : Value), Hid (∀ W, Fr0 w4 W → Calls Tryz.prog 37 #[.pointer (some ⟨p, 0, none⟩), .int .i64 l, .agg #[.int .i64 k, .int .i64 at_, .int .i64 n, .int .i64 t, .int .i64 x]] W fun e w' => e = .returned (.tuple #[.int .i64 v, ev]) ∧ Fr0 W w') ∧ Hid (LenCase L l k at_ n t x v ev) := len_case HB4.out.wd.st HB4.out.gr.sok l k at_ n t x
  go_cut [11, 12] (fun s11 s12 wx => s11 = .int .i64 v ∧ s12 = ev ∧ Fr0 w4 wx)
  case first =>
    go_region_held3 (fun w' => Fr0 w4 w' ∧ w'.cell? ⟨q, 0, none⟩ = some (.pointer (some ⟨p, 0, none⟩)) ∧ w'.cell? ⟨E, 0, none⟩ = some (.int .i64 k) ∧ w'.cell? ⟨E, 1, none⟩ = some (.int .i64 at_) ∧ w'.cell? ⟨E, 2, none⟩ = some (.int .i64 n) ∧ w'.cell? ⟨E, 3, none⟩ = some (.int .i64 t) ∧ w'.cell? ⟨E, 4, none⟩ = some (.int .i64 x))
      (exact HKEY.out _ (by first | exact Fr0.refl _ | exact (Fr0.refl _).drew | exact hff3))
      ((first
        | (go_at_call 37; (with_reducible refine Calls.mono (CLN.out _ (by first | exact (Fr0.refl _).drew | exact Fr0.refl _)) ?_); rintro e w5 ⟨rfl, hf5⟩; have hff3 : Fr0 w4 w5 := (by first | exact (Fr0.refl _).drew.trans hf5 | exact hf5); clear hf5)))
    all_goals
      go_wp2_with fail
      go_meet
      exact ⟨rfl, rfl, by assumption⟩
  case rest =>
    obtain ⟨rfl, hev, hf5⟩ := hcut
    clear CLN c0 c1 c2 c3 c4 cf lq r1 r2 r3 r4 r5 lr
    have hW5 := HB4.out.wd.kept0 hf5
    have hb5 := hf5.kept H4.out
    obtain ⟨r1, r2, r3, r4, r5, lr⟩ := cells5 hb5
    rcases HCASE.out with ⟨hbad, hv, he⟩ | ⟨⟨hg0, hg1, hgk⟩, hv, he⟩
    · subst hv
      subst he
      subst hev
      clear HCASE HKEY hb5
      by_cases a1 : l < 0
      · have e1 : decide (l < 0) = true := decide_eq_true a1
        clear hbad hW5
        go_wp2_with fail
        refine (base_Is 1 _ (by decide)).mono ?_
        rintro e w6 ⟨rfl, rfl⟩
        go_wp2_with fail
        go_ret
        exact ⟨by first | rfl | simp, F4.out.trans hf5⟩
      have e1 : decide (l < 0) = false := decide_eq_false a1
      by_cases a2 : 1152921504606846976 < l
      · have e2 : decide (1152921504606846976 < l) = true := decide_eq_true a2
        clear hbad hW5
        go_wp2_with fail
        refine (base_Is 1 _ (by decide)).mono ?_
        rintro e w6 ⟨rfl, rfl⟩
        go_wp2_with fail
        go_ret
        exact ⟨by first | rfl | simp, F4.out.trans hf5⟩
      have e2 : decide (1152921504606846976 < l) = false := decide_eq_false a2
      have CU := Lib.hid (law36_unknown hW5 x true (by
        have hn : ¬ isKnown L x := by rcases hbad with h | h | h <;> first | omega | exact h
        unfold isKnown at hn
        symm
        rw [Bool.or_eq_true, decide_eq_true_eq, decide_eq_true_eq]
        omega))
      clear hbad hW5
      go_wp2_with fail
      refine CU.out.mono ?_
      rintro e w6 ⟨rfl, rfl⟩
      go_wp2_with fail
      refine (base_Is 1 _ (by decide)).mono ?_
      rintro e w6 ⟨rfl, rfl⟩
      go_wp2_with fail
      go_ret
      exact ⟨by first | rfl | simp, F4.out.trans hf5⟩
    · have e1 : decide (l < 0) = false := decide_eq_false (by omega)
      have e2 : decide (1152921504606846976 < l) = false := decide_eq_false (by omega)
      have CU := Lib.hid (law36_unknown hW5 x false (by
        obtain ⟨g1, g2⟩ := hgk
        rw [decide_eq_false (show ¬ x < 0 by omega), decide_eq_false (show ¬ (L.length : Int) < x by omega)]; rfl))
      have hwt := (HB4.out.gr.sok.at x hgk).1
      have hx0 : x = 0 → (entAt L x).wt.len = 0 := by rintro rfl; rfl
      have CL := Lib.hid (fun W (hW : Fr0 w4 W) => law36_length (HB4.out.wd.kept0 hW) x hgk)
      have CR := Lib.hid (fun W => ref36_Length l k at_ n t x (entAt L x).wt.len W hg0 hg1 hwt.len0 hwt.len1 hx0)
      subst hv
      rw [he] at hev
      subst hev
      clear hx0 hwt he hgk HCASE
      generalize (entAt L x).wt.len = wl at *
      generalize valE l k at_ n t x wl = V at *
      generalize errE l k at_ n t x wl = Z at *
      have HF5 := Lib.hid hf5
      clear hW5 hb5
      go_wp2_with fail
      refine CU.out.mono ?_
      rintro e w6 ⟨rfl, rfl⟩
      clear CU
      go_upto_region 10 with fail
      go_cut [13, 14] (fun s13 s14 wx => s13 = .int .i64 V ∧ s14 = .int .i64 Z ∧ Fr0 w4 wx)
      case first =>
        go_region_held3 (fun w' => Fr0 w4 w' ∧ w'.cell? ⟨q, 0, none⟩ = some (.pointer (some ⟨p, 0, none⟩)) ∧ w'.cell? ⟨E, 0, none⟩ = some (.int .i64 k) ∧ w'.cell? ⟨E, 1, none⟩ = some (.int .i64 at_) ∧ w'.cell? ⟨E, 2, none⟩ = some (.int .i64 n) ∧ w'.cell? ⟨E, 3, none⟩ = some (.int .i64 t) ∧ w'.cell? ⟨E, 4, none⟩ = some (.int .i64 x))
          (exact HKEY.out _ (by first | exact HF5.out | exact HF5.out.drew | exact hff4 | exact hff3))
          ((first
            | (go_at_call 40; (with_reducible refine Calls.mono (CL.out _ (by first | exact HF5.out.drew | exact HF5.out)) ?_); rintro e w7 ⟨rfl, hf7⟩; have hff3 : Fr0 w4 w7 := (by first | exact HF5.out.drew.trans hf7 | exact HF5.out.trans hf7); clear hf7)
            | (go_at_call 39; (with_reducible refine Calls.mono (CR.out _) ?_); rintro e w8 ⟨rfl, hf8⟩; have hff4 : Fr0 w4 w8 := (by exact hff3.trans hf8); clear hf8)))
        all_goals
          go_wp2_with fail
          go_meet
          exact ⟨rfl, rfl, by assumption⟩
      case rest =>
        obtain ⟨rfl, rfl, hf9⟩ := hcut
        have CN := Lib.hid (fun W => base_NumV Z W)
        clear CL CR HKEY HF5 hf5 r1 r2 r3 r4 r5 lr
        go_wp2_with fail
        refine (CN.out _).mono ?_
        rintro e w9 ⟨rfl, rfl⟩
        go_wp2_with fail
        go_ret
        exact ⟨by first | rfl | simp, F4.out.trans hf9⟩

end Go.Proofs.YtclpndigmidjkaaGreat

/- The walk of patch.Length. -/
import Derived.Test.YtbokcmkbnkncoaaPat3
set_option linter.unusedSimpArgs false
set_option linter.unusedVariables false
namespace Go.Proofs.Ytbokcmkbnkncoaa
open Go.RowKit

def sumN : List Chg → Int
  | [] => 0
  | c :: r => c.n + sumN r
def sumT (ln : Int → Int) : List Chg → Int
  | [] => 0
  | c :: r => ln c.text + sumT ln r

/-- The length of the text of an ID. -/
def lnL (L : List Ent) (id : Int) : Int := (entAt L id).wt.len

theorem sumN_snoc (cs : List Chg) (c : Chg) : sumN (cs ++ [c]) = sumN cs + c.n := by
  induction cs with
  | nil => simp [sumN]
  | cons x r ih => simp only [List.cons_append, sumN, ih]; omega
theorem sumT_snoc (ln : Int → Int) (cs : List Chg) (c : Chg) : sumT ln (cs ++ [c]) = sumT ln cs + ln c.text := by
  induction cs with
  | nil => simp [sumT]
  | cons x r ih => simp only [List.cons_append, sumT, ih]; omega
theorem sumT_split (ln : Int → Int) (cs ds : List Chg) : sumT ln (cs ++ ds) = sumT ln cs + sumT ln ds := by
  induction cs with
  | nil => simp [sumT]
  | cons x r ih => simp only [List.cons_append, sumT, ih]; omega
theorem sumT_nn {ln : Int → Int} {cs : List Chg} (h : ∀ c ∈ cs, 0 ≤ ln c.text) : 0 ≤ sumT ln cs := by
  induction cs with
  | nil => simp [sumT]
  | cons x r ih =>
    have := ih (fun c hc => h c (by simp [hc]))
    have := h x (by simp)
    simp only [sumT]; omega

theorem formed_take {length : Int} : ∀ (cs : List Chg) (last : Int) (k : Nat), formedFrom length last cs = true → formedFrom length last (cs.take k) = true
  | [], last, k, h => by simp [formedFrom]
  | c :: r, last, 0, h => by simp [formedFrom]
  | c :: r, last, k + 1, h => by
    unfold formedFrom at h
    rw [Bool.and_eq_true] at h
    rw [List.take_succ_cons]
    unfold formedFrom
    rw [Bool.and_eq_true]
    exact ⟨h.1, formed_take r _ k h.2⟩

theorem formed_sum' {length : Int} : ∀ (cs : List Chg) (last : Int), last ≤ length → formedFrom length last cs = true → sumN cs ≤ length - last
  | [], last, h0, h => by simp [sumN]; omega
  | c :: r, last, h0, h => by
    unfold formedFrom at h
    rw [Bool.and_eq_true] at h
    obtain ⟨t1, t2, t3, t4, t5⟩ := fitB_true h.1
    have := formed_sum' r _ t3 h.2
    simp only [sumN]; omega

theorem formed_sum {length : Int} (h0 : 0 ≤ length) : ∀ (cs : List Chg), formedFrom length (-1) cs = true → sumN cs ≤ length
  | [], h => by simp [sumN]; omega
  | c :: r, h => by
    unfold formedFrom at h
    rw [Bool.and_eq_true] at h
    obtain ⟨t1, t2, t3, t4, t5⟩ := fitB_true h.1
    have := formed_sum' r _ t3 h.2
    simp only [sumN]; omega

theorem formed_nn {length : Int} : ∀ (cs : List Chg) (last : Int), formedFrom length last cs = true → ∀ c ∈ cs, 0 ≤ c.n ∧ c.n ≤ length
  | [], last, h => by intro c hc; simp at hc
  | c :: r, last, h => by
    unfold formedFrom at h
    rw [Bool.and_eq_true] at h
    obtain ⟨t1, t2, t3, t4, t5⟩ := fitB_true h.1
    intro x hx
    rcases List.mem_cons.1 hx with rfl | hx
    · omega
    · exact formed_nn r _ h.2 x hx

theorem sumN_nn : ∀ {cs : List Chg}, (∀ c ∈ cs, 0 ≤ c.n) → 0 ≤ sumN cs
  | [], h => by simp [sumN]
  | c :: r, h => by
    have := sumN_nn (cs := r) (fun c hc => h c (by simp [hc]))
    have := h c (by simp)
    simp only [sumN]; omega

theorem patch_sizeL {w : World} {p mb : Nat} {most : Int} {sv : Value} {L : List Ent} (hS : St w p mb most sv L) (id : Int) (h : isKnown L id) :
    Calls Try.prog 41 #[.pointer (some ⟨p, 0, none⟩), .int .i64 id] w fun e w' => e = .returned (.tuple #[.int .i64 (lnL L id), .nilIface]) ∧ Fr0 w w' := patch_size hS id h

set_option maxRecDepth 100000 in
set_option maxHeartbeats 2000000 in
theorem pat_Length_ok {w : World} {p mb : Nat} {most : Int} {sv : Value} {L : List Ent} (hS : St w p mb most sv L) (hO : SOk L) (length : Int) (h0 : 0 ≤ length) (h1 : length ≤ 1152921504606846976) (a : Option Addr) (cap : Nat) (cs : List Chg) (hc : ChgsAt w a cs) (hl : cs.length ≤ 1000000) (hk : ∀ c ∈ cs, isKnown L c.text ∧ (entAt L c.text).even = true)
    (hfm : formedFrom length (-1) cs = true) (ht : length - sumN cs + sumT (lnL L) cs ≤ 1152921504606846976) :
    Calls Try.prog 30 #[.pointer (some ⟨p, 0, none⟩), .int .i64 length, .slice a cs.length cap] w fun e w' => e = .returned (.tuple #[.int .i64 (length - sumN cs + sumT (lnL L) cs), .nilIface]) ∧ Fr0 w w' := by
  have CK := Lib.hid (pat_Check_formed hS length h0 h1 a cap cs hc hl (fun c hc => (hk c hc).1) hfm .nilIface (fun W hW => pat_balanced_ok (hS.kept0 hW) a cap cs (hc.kept0 hW) hl hk))
  have HC := Lib.hid hc
  have HS := Lib.hid hS
  have HK := Lib.hid hk
  have HF := Lib.hid hfm
  have hnn : ∀ c ∈ cs, 0 ≤ lnL L c.text := fun c hc => (hO.at _ (hk c hc).1).1.len0
  have hN0 := formed_sum h0 cs hfm
  have hNN := Lib.hid (formed_nn cs _ hfm)
  have HNN := Lib.hid hnn
  have hsn := sumN_nn (fun c hc => (hNN.out c hc).1)
  clear hc hS hk hfm hO hnn
  obtain ⟨sN, hsN⟩ : ∃ s, sumN cs = s := ⟨_, rfl⟩
  obtain ⟨sT, hsT⟩ : ∃ s, sumT (lnL L) cs = s := ⟨_, rfl⟩
  rw [hsN] at hN0 hsn ht ⊢
  rw [hsT] at ht ⊢
  have HSN := Lib.hid hsN
  have HST := Lib.hid hsT
  clear hsN hsT
  go_enter Try.func30, Try.ntmps30
  go_wp2_with fail
  refine CK.out.mono ?_
  rintro e w1 ⟨rfl, hf1⟩
  go_wp2_with fail
  go_loopw [1, 24] (fun v i wr => ∃ (k : Nat), k ≤ cs.length ∧ i = .int .i64 k ∧ v = .int .i64 (length - sumN (cs.take k)) ∧ Fr0 w wr) (fun _ i _ => cs.length - (intOf i).toNat)
  case atStart => exact ⟨0, Nat.zero_le _, rfl, by simp [sumN], hf1⟩
  case round =>
    obtain ⟨k, hk, rfl, rfl, hfr⟩ := hrel
    have g1 := formed_sum h0 _ (formed_take cs _ k HF.out)
    have g2 : 0 ≤ sumN (cs.take k) := sumN_nn (fun c hc => (hNN.out c (List.mem_of_mem_take hc)).1)
    by_cases hlt : k < cs.length
    · obtain ⟨b, off, hab, lb, d0, d1, d2⟩ := (HC.out.kept0 hfr) k hlt
      have hcn := hNN.out cs[k] (List.getElem_mem _)
      have HT : Hid (sumN (cs.take (k + 1)) = sumN (cs.take k) + cs[k].n) := by show _ = _; rw [List.take_succ_eq_append_getElem hlt, sumN_snoc]
      subst hab
      generalize cs[k] = c at *
      generalize sumN (cs.take k) = s0 at *
      go_wp2_with fail
      go_roundw
      case rel => exact ⟨k + 1, by omega, by go_num, by rw [HT.out]; go_num, hfr.alloc _⟩
      case measure => simp [intOf]; omega
    · have hke : Hid (sumN (cs.take k) = sN) := by show _ = _; rw [List.take_of_length_le (by omega)]; exact HSN.out
      rw [hke.out]
      clear g1 g2 hke
      go_wp2_with fail
      clear hlt hk
      obtain ⟨wo, rfl⟩ : ∃ wo : World, wo = wr := ⟨_, rfl⟩
      go_loopw [1, 35] (fun v i wr => ∃ (k : Nat), k ≤ cs.length ∧ i = .int .i64 k ∧ v = .int .i64 (length - sN + sumT (lnL L) (cs.take k)) ∧ Fr0 w wr) (fun _ i _ => cs.length - (intOf i).toNat)
      case atStart => exact ⟨0, Nat.zero_le _, rfl, by simp [sumT], hfr⟩
      case round =>
        clear hfr
        obtain ⟨k, hk, rfl, rfl, hfr⟩ := hrel
        have g2 : 0 ≤ sumT (lnL L) (cs.take k) := sumT_nn (fun c hc => HNN.out c (List.mem_of_mem_take hc))
        by_cases hlt : k < cs.length
        · obtain ⟨b, off, hab, lb, d0, d1, d2⟩ := (HC.out.kept0 hfr) k hlt
          have hln := HNN.out cs[k] (List.getElem_mem _)
          have g3 : 0 ≤ sumT (lnL L) (cs.drop (k + 1)) := sumT_nn (fun c hc => HNN.out c (List.mem_of_mem_drop hc))
          have g4 : sT = sumT (lnL L) (cs.take (k + 1)) + sumT (lnL L) (cs.drop (k + 1)) := by rw [← sumT_split, List.take_append_drop]; exact HST.out.symm
          have g5 : sumT (lnL L) (cs.take (k + 1)) = sumT (lnL L) (cs.take k) + lnL L cs[k].text := by rw [List.take_succ_eq_append_getElem hlt, sumT_snoc]
          have HT := Lib.hid g5
          have CSZ := Lib.hid (fun W (hf : Fr0 wr W) => patch_sizeL (HS.out.kept0 (hfr.trans hf)) cs[k].text (HK.out cs[k] (List.getElem_mem _)).1)
          have CAD := Lib.hid (fun W => len_Add_ok (length - sN + sumT (lnL L) (cs.take k)) (lnL L cs[k].text) W (by omega) hln (by omega))
          clear g3 g4 g5
          subst hab
          generalize cs[k] = c at *
          generalize sumT (lnL L) (cs.take k) = s0 at *
          generalize lnL L c.text = l0 at *
          go_wp2_with fail
          refine (CSZ.out _ ((Fr0.refl wr).alloc _)).mono ?_
          rintro e w3 ⟨rfl, hf3⟩
          go_wp2_with fail
          refine (CAD.out _).mono ?_
          rintro e w4 ⟨rfl, rfl⟩
          go_wp2_with fail
          go_roundw
          case rel => exact ⟨k + 1, by omega, by go_num, by rw [HT.out]; go_num, hfr.trans (((Fr0.refl wr).alloc _).trans hf3)⟩
          case measure => simp [intOf]; omega
        · have hke : Hid (sumT (lnL L) (cs.take k) = sT) := by show _ = _; rw [List.take_of_length_le (by omega)]; exact HST.out
          rw [hke.out]
          clear g2 hke
          go_wp2_with fail
          go_ret2
          exact ⟨rfl, hfr⟩

set_option maxRecDepth 100000 in
set_option maxHeartbeats 1000000 in
theorem pat_Length_err {w : World} {p : Nat} (length : Int) (pv : Value) (n : Int) (hK : Calls Try.prog 40 #[.pointer (some ⟨p, 0, none⟩), .int .i64 length, pv] w fun e w' => e = .returned (.iface 66 (.int .i64 n)) ∧ Fr0 w w') :
    Calls Try.prog 30 #[.pointer (some ⟨p, 0, none⟩), .int .i64 length, pv] w fun e w' => e = .returned (.tuple #[.int .i64 0, .iface 66 (.int .i64 n)]) ∧ Fr0 w w' := by
  have CK := Lib.hid hK
  clear hK
  go_enter Try.func30, Try.ntmps30
  go_wp2_with fail
  refine CK.out.mono ?_
  rintro e w1 ⟨rfl, hf1⟩
  go_wp2_with fail
  go_ret2
  exact ⟨rfl, hf1⟩

end Go.Proofs.Ytbokcmkbnkncoaa

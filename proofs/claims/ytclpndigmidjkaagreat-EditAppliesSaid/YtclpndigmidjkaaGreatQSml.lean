/- The walk of evergreenlaw37.small. -/
import Derived.Test.YtclpndigmidjkaaGreatQL37a
import Derived.Deep.LoopGhost
import Derived.Deep.DeepCutAuto
set_option linter.unusedSimpArgs false
set_option linter.unusedVariables false
namespace Go.Proofs.YtclpndigmidjkaaGreat
open Go.RowKit

/-- What small counts. -/
def costL : List PS → Nat
  | [] => 0
  | c :: r => c.s.size + 1 + costL r
def costs : List (List PS) → Nat
  | [] => 0
  | l :: r => costL l + costs r

theorem costL_split (a b : List PS) : costL (a ++ b) = costL a + costL b := by
  induction a with
  | nil => simp [costL]
  | cons x r ih => simp only [List.cons_append, costL, ih]; omega
theorem costs_split (a b : List (List PS)) : costs (a ++ b) = costs a + costs b := by
  induction a with
  | nil => simp [costs]
  | cons x r ih => simp only [List.cons_append, costs, ih]; omega
theorem costL_take (ps : List PS) (k : Nat) (h : k < ps.length) : costL (ps.take (k + 1)) = costL (ps.take k) + (ps[k].s.size + 1) ∧ costL (ps.take (k + 1)) ≤ costL ps := by
  refine ⟨by rw [List.take_succ_eq_append_getElem h, costL_split]; simp [costL], ?_⟩
  have := costL_split (ps.take (k + 1)) (ps.drop (k + 1))
  rw [List.take_append_drop] at this
  omega
theorem costs_take (ps : List (List PS)) (k : Nat) (h : k < ps.length) : costs (ps.take (k + 1)) = costs (ps.take k) + costL ps[k] ∧ costs (ps.take (k + 1)) ≤ costs ps := by
  refine ⟨by rw [List.take_succ_eq_append_getElem h, costs_split]; simp [costs], ?_⟩
  have := costs_split (ps.take (k + 1)) (ps.drop (k + 1))
  rw [List.take_append_drop] at this
  omega
theorem costL_len (ps : List PS) : ps.length ≤ costL ps := by
  induction ps with
  | nil => simp
  | cons x r ih => simp only [List.length_cons, costL]; omega
theorem costL_ins (ps : List PS) : insP (ps.map PS.pc) + ps.length = costL ps := by
  induction ps with
  | nil => rfl
  | cons x r ih =>
    have e : (PS.pc x).text.length = x.s.size := sbs_len _
    simp only [List.map_cons, insP, List.length_cons, costL, e]; omega
theorem costL_mem (ps : List PS) : ∀ c ∈ ps, c.s.size ≤ costL ps := by
  induction ps with
  | nil => intro c hc; simp at hc
  | cons x r ih =>
    intro c hc
    rcases List.mem_cons.1 hc with rfl | hc
    · simp only [costL]; omega
    · have := ih c hc; simp only [costL]; omega

/-- Lists of changes at an address. -/
def PssAt (B : Nat) (w : World) (a : Option Addr) (pss : List (List PS)) : Prop :=
  ∀ i (h : i < pss.length), ∃ b off ia ic, a = some ⟨b, off, none⟩ ∧ b < w.heap.size ∧ w.cell? ⟨b, off + i, none⟩ = some (.slice ia pss[i].length ic) ∧ RG PS.vals 3 B w ia pss[i]

theorem PssAt.kept0 {B : Nat} {w w' : World} {a : Option Addr} {pss : List (List PS)} (h : PssAt B w a pss) (hf : Fr0 w w') : PssAt B w' a pss := by
  intro i hi
  obtain ⟨b, off, ia, ic, h1, h2, h3, h4⟩ := h i hi
  exact ⟨b, off, ia, ic, h1, by have := Fr.size hf; omega, (hf.cell b _ h2).trans h3, h4.kept0 hf⟩

set_option maxRecDepth 100000 in
set_option maxHeartbeats 2000000 in
theorem law37_small {B : Nat} {w : World} {a : Option Addr} {cap : Nat} {pss : List (List PS)} (s : ByteArray) (hA : PssAt B w a pss) (hl : s.size + costs pss ≤ 1000000000) (hn : pss.length ≤ 1000) (bb : Bool) (hb : decide (s.size + costs pss ≤ 800) = bb) :
    Calls Tryz.prog 21 #[.string s, .slice a pss.length cap] w fun e w' => e = .returned (.bool bb) ∧ Fr0 w w' := by
  have HA := Lib.hid hA
  have HB := Lib.hid hb
  clear hA hb
  go_enter Tryz.func21, Tryz.ntmps21
  go_wp2_with fail
  go_loopg [5, 14] pss.length (fun gk n i wr => ∃ (k c : Nat), k + gk = pss.length ∧ i = .int .i64 k ∧ n = .int .i64 c ∧ Fr0 w wr ∧ Hid (c = s.size + costs (pss.take k)))
  case atStart => exact ⟨0, s.size, by omega, rfl, rfl, Fr0.refl w, by show _ = _; simp [costs]⟩
  case round =>
    obtain ⟨k, c, hk, rfl, rfl, hfr, HC⟩ := hrel
    have hgk : gk + k = pss.length := by omega
    clear hk
    by_cases hlt : k < pss.length
    · obtain ⟨b, off, ia, ic, rfl, lb, d0, hrg⟩ := (HA.out.kept0 hfr) k hlt
      obtain ⟨q1, q2⟩ := costs_take pss k hlt
      have HQ := Lib.hid q1
      have hcb : c + costL pss[k] ≤ 1000000000 := by rw [HC.out]; omega
      have hpl := costL_len pss[k]
      have HRG := Lib.hid hrg
      clear hrg q1 q2 HA HB
      generalize pss[k] = ps at *
      go_wp2_with fail
      obtain ⟨wo, rfl⟩ : ∃ wo : World, wo = wr := ⟨_, rfl⟩
      go_loopg [5, 20] ps.length (fun gk n i wr => ∃ (j c2 : Nat), j + gk = ps.length ∧ i = .int .i64 j ∧ n = .int .i64 c2 ∧ Fr0 wo wr ∧ Hid (c2 = c + costL (ps.take j)))
      case atStart => exact ⟨0, c, by omega, rfl, rfl, Fr0.refl wo, by show _ = _; simp [costL]⟩
      case round =>
        obtain ⟨j, c2, hj, rfl, rfl, hfr2, HC2⟩ := hrel
        have hgj : gk + j = ps.length := by omega
        clear hj
        by_cases hlt2 : j < ps.length
        · obtain ⟨b2, off2, rfl, lb2, _, hc⟩ := (HRG.out.kept0 hfr2) j hlt2
          have c0 := hc 0 _ rfl
          have c1 := hc 1 _ rfl
          have c2' := hc 2 _ rfl
          rw [Nat.add_zero] at c0
          obtain ⟨q1, q2⟩ := costL_take ps j hlt2
          have HQ2 := Lib.hid q1
          have hb2 : c2 + (ps[j].s.size + 1) ≤ 1000000000 := by rw [HC2.out]; omega
          clear hc q1 q2 HRG
          generalize ps[j] = x at *
          obtain ⟨xa, xn, xs⟩ := x
          dsimp only at *
          go_wp2_with fail
          go_roundg (gk - 1)
          case measure => omega
          case rel => exact ⟨j + 1, c2 + (xs.size + 1), by omega, by go_num, by go_num, hfr2.alloc _, by show _ = _; rw [HQ2.out, HC2.out]; omega⟩
        · have hje : j = ps.length := by omega
          have HC3 : Hid (c2 = s.size + costs (pss.take (k + 1))) := by
            show _ = _
            rw [HC2.out, HQ.out, HC.out, hje, List.take_length]; omega
          clear HC2 hje
          go_wp2_with fail
          go_roundg (pss.length - k - 1)
          case measure => omega
          case rel => exact ⟨k + 1, c2, by omega, by go_num, rfl, hfr.trans hfr2, HC3⟩
    · have HE : Hid (decide ((c : Int) ≤ 800) = bb) := by
        show _ = _
        rw [← HB.out, HC.out, List.take_of_length_le (by omega)]
        congr 1
        exact propext ⟨fun h => by omega, fun h => by omega⟩
      have hE := HE.out
      clear HC HB HA HE
      go_wp2_with fail
      go_ret
      exact ⟨rfl, hfr⟩

end Go.Proofs.YtclpndigmidjkaaGreat

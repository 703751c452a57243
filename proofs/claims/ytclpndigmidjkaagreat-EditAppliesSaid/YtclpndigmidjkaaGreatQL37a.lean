/- Changes with strings in memory, and the walk of evergreenlaw37.To. -/
import Derived.Test.YtclpndigmidjkaaGreatQe
import Derived.Test.YtclpndigmidjkaaGreatQStr
set_option linter.unusedSimpArgs false
set_option linter.unusedVariables false
namespace Go.Proofs.YtclpndigmidjkaaGreat
open Go.RowKit

/-- A change with a string. -/
structure PS where
  at_ : Int
  n : Int
  s : ByteArray

def PS.vals (c : PS) : List Value := [.int .i64 c.at_, .int .i64 c.n, .string c.s]
def PS.pc (c : PS) : PC := ⟨c.at_, c.n, sbs c.s⟩
def Chg.vals (c : Chg) : List Value := [.int .i64 c.at_, .int .i64 c.n, .int .i64 c.text]

theorem info_chg : (Tryz.prog.info? 41).map (fun i => (i.zero, i.size, i.bytes)) = some (some (.agg #[.int .i64 0, .int .i64 0, .int .i64 0]), 3, 24) := by kernel_rfl
theorem rt_chg : RT 23 41 3 24 := by
  obtain ⟨i, h1, h2, h3, h4⟩ := info_parts info_chg
  exact ⟨by omega, i, _, Tryz.underlying23, h1, h2, h3, h4, rfl⟩

theorem chgs_of_rg {B : Nat} {w : World} {a : Option Addr} {cs : List Chg} (h : RG Chg.vals 3 B w a cs) : ChgsAt w a cs := by
  intro i hi
  obtain ⟨b, off, h1, h2, _, h4⟩ := h i hi
  exact ⟨b, off, h1, h2, h4 0 _ rfl, h4 1 _ rfl, h4 2 _ rfl⟩

theorem insP_snoc (ps : List PC) (c : PC) : insP (ps ++ [c]) = insP ps + c.text.length := by
  induction ps with
  | nil => simp [insP]
  | cons x r ih => simp only [List.cons_append, insP, ih]; omega
theorem insP_split (ps qs : List PC) : insP (ps ++ qs) = insP ps + insP qs := by
  induction ps with
  | nil => simp [insP]
  | cons x r ih => simp only [List.cons_append, insP, ih]; omega

/-- What To leaves. -/
def ToPost (B : Nat) (w : World) (p mb : Nat) (most : Int) (L : List Ent) (ps : List PC) (N : Nat) (e : Ending) (w' : World) : Prop :=
  ∃ L' v cs k, e = .returned (.tuple #[v, .bool true]) ∧ Sto B w' p mb most L' ∧ Kp B mb w w' ∧ Grows L L' k ∧ k ≤ N ∧ w'.ownsRow w.heap.size 41 3 v cs.length (cs.flatMap Chg.vals) ∧ PChg L' cs ps

/-- The state of To's loop. -/
structure ToR (B : Nat) (w wr : World) (p mb : Nat) (most : Int) (L : List Ent) (ps : List PC) (v : Value) (L' : List Ent) (cs : List Chg) : Prop where
  st : Sto B wr p mb most L'
  kp : Kp B mb w wr
  grows : Grows L L' (2 * insP ps)
  own : wr.ownsRow w.heap.size 41 3 v cs.length (cs.flatMap Chg.vals)
  all : PChg L' cs ps

set_option maxRecDepth 100000 in
set_option maxHeartbeats 2000000 in
theorem law37_To {B : Nat} {w : World} {p mb : Nat} {most : Int} {L : List Ent} {ps : List PS} {a : Option Addr} {cap : Nat} (hR : Room B w p mb most L (2 * insP (ps.map PS.pc))) (hA : RG PS.vals 3 B w a ps) (hl : ps.length ≤ 1000000) (h3 : ∀ c ∈ ps, c.s.size ≤ 65536) :
    Calls Tryz.prog 22 #[.pointer (some ⟨p, 0, none⟩), .slice a ps.length cap] w (ToPost B w p mb most L (ps.map PS.pc) (2 * insP (ps.map PS.pc))) := by
  have HR := Lib.hid hR
  have HA := Lib.hid hA
  have H3 := Lib.hid h3
  have H0 : Hid (ToR B w w p mb most L [] (.slice none 0 0) L []) := ⟨hR.st, Kp.refl _ _ _, (Grows.refl hR.sok hR.dok).le (by omega), World.ownsRow_nil _ _ _ _, trivial⟩
  clear hR hA h3
  go_enter Tryz.func22, Tryz.ntmps22
  go_wp2_with fail
  go_loopw [6, 13] (fun v i wr => ∃ (k : Nat) (L' : List Ent) (cs : List Chg), k ≤ ps.length ∧ i = .int .i64 k ∧ Hid (cs.length = k) ∧ ToR B w wr p mb most L ((ps.take k).map PS.pc) v L' cs) (fun _ i _ => ps.length - (intOf i).toNat)
  case atStart => exact ⟨0, L, [], Nat.zero_le _, rfl, rfl, H0.out⟩
  case round =>
    obtain ⟨k, L', cs, hk, rfl, HCL, hr⟩ := hrel
    clear H0
    by_cases hlt : k < ps.length
    · obtain ⟨b, off, rfl, lb, _, hc⟩ := (HA.out.keptK hr.kp) k hlt
      have c0 := hc 0 _ rfl
      have c1 := hc 1 _ rfl
      have c2 := hc 2 _ rfl
      rw [Nat.add_zero] at c0
      have h65 := H3.out ps[k] (List.getElem_mem _)
      have htk : (ps.take (k + 1)).map PS.pc = (ps.take k).map PS.pc ++ [ps[k].pc] := by rw [List.take_succ_eq_append_getElem hlt, List.map_append]; rfl
      have hin : insP ((ps.take (k + 1)).map PS.pc) ≤ insP (ps.map PS.pc) := by
        have := insP_split ((ps.take (k + 1)).map PS.pc) ((ps.drop (k + 1)).map PS.pc)
        rw [← List.map_append, List.take_append_drop] at this
        omega
      have hin2 : insP ((ps.take (k + 1)).map PS.pc) = insP ((ps.take k).map PS.pc) + ps[k].s.size := by rw [htk, insP_snoc]; show _ + (sbs _).length = _; rw [sbs_len]
      have hroom := HR.out.next (k := 2 * ps[k].s.size) hr.st hr.kp hr.grows (by omega)
      have HTK := Lib.hid htk
      have HIN := Lib.hid hin2
      have HRR := Lib.hid hr
      have HRM := Lib.hid hroom
      clear hc htk hin hin2 hr hroom HR HA H3
      generalize ps[k] = c at *
      obtain ⟨ccap, cf, hconv, hcap1, hcap2⟩ := conv_bytes (wr.alloc (.cells #[.int .i64 c.at_, .int .i64 c.n, .string c.s] 113 (0, 0))) c.s
      have hcap3 := hcap2 (by unfold maxLen; omega)
      unfold maxLen at hcap3
      have hF : Fr0 wr ((wr.alloc (.cells #[.int .i64 c.at_, .int .i64 c.n, .string c.s] 113 (0, 0))).alloc (.cells (bytesRow c.s ccap) 5 cf)).drew := (((Fr0.refl wr).alloc _).alloc _).drew
      have CT := Lib.hid (sto_TextN (sbs_len c.s) (HRM.out.kept0 hF) (wr.heap.size + 1) 0 ccap (bytes_convH _ _ (by simp) c.s ccap cf) h65 hcap1 hcap3)
      have HF := Lib.hid hF
      clear hF hcap2
      go_wp2_with fail
      (with_reducible refine CT.out.mono ?_)
      rintro e w3 ⟨L2, z, dz, kz, rfl, hS2, hK2, g2, bz, hz⟩
      have hr3 := hK2.cells wr.heap.size _ _ _ (alloc2_0 wr _ _) (by decide) (by decide)
      obtain ⟨d0, d1, d2, _, ld⟩ := cells3 hr3
      have hK3 := (HRR.out.kp.trans (Kp.of0 HF.out)).trans hK2
      have ho3 := hK2.owns (HF.out.owns HRR.out.own) (by decide) (by decide)
      have hall := (HRR.out.all.more g2 HRR.out.grows.dok).snoc (c := ⟨c.at_, c.n, z⟩) (p := c.pc) rfl rfl bz
      have hN : ∀ v' w', w'.ownsRow w.heap.size 41 3 v' (cs ++ [(⟨c.at_, c.n, z⟩ : Chg)]).length ((cs ++ [(⟨c.at_, c.n, z⟩ : Chg)]).flatMap Chg.vals) → (w3.alloc (.cells #[.int .i64 c.at_, .int .i64 c.n, .int .i64 z] 41 (0, 0))).grownBy w' u6.ownBlock → ToR B w w' p mb most L ((ps.take (k + 1)).map PS.pc) v' L2 (cs ++ [⟨c.at_, c.n, z⟩]) :=
        fun v' w' h1 h2 => ⟨hS2.push ho3 (by decide) (by decide) h2, (hK3.alloc _).grown h2 (fun j hj => (ho3.lt j hj).1), HRR.out.grows.trans g2 (by rw [HIN.out]; omega), h1, by rw [HTK.out]; exact hall⟩
      have HN := Lib.hid hN
      have hbs : w.heap.size ≤ w3.heap.size := hK3.size
      have hcl : cs.length ≤ 1000000 := by rw [HCL.out]; omega
      clear hN hS2 hK2 g2 bz hz hall CT hr3 hK3 hconv HF
      go_wp2_with (at_builtin; refine wpList_pushG rt_chg rfl _ _ rfl w.heap.size _ cs rfl ho3 hbs 41 ⟨c.at_, c.n, z⟩ #[.int .i64 c.at_, .int .i64 c.n, .int .i64 z] rfl rfl (by simp [Chg.vals, Value.oneCell']) 1 _ rfl rfl (by omega) hcl ?_; intro v' w4 hO4 hg4 hat4)
      go_roundw
      case rel => exact ⟨k + 1, L2, cs ++ [⟨c.at_, c.n, z⟩], by omega, by go_num, by show _ = _; rw [List.length_append, HCL.out]; rfl, HN.out _ _ hO4 hg4⟩
      case measure => simp [intOf]; omega
    · have hkz : k = ps.length := by omega
      have HX : Hid (ToPost B w p mb most L (ps.map PS.pc) (2 * insP (ps.map PS.pc)) (.returned (.tuple #[u6, .bool true])) wr) := by
        have h1 := hr
        rw [hkz, List.take_length] at h1
        exact ⟨L', u6, cs, _, rfl, h1.st, h1.kp, h1.grows, Nat.le_refl _, h1.own, h1.all⟩
      clear hr hkz hk HA HR H3
      go_wp2_with fail
      go_ret2
      exact HX.out

end Go.Proofs.YtclpndigmidjkaaGreat

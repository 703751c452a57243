/- The state behind the first calls of PatchApplies and PatchInverts. -/
import Derived.Test.YtclpndigmidjkaaGreatQCm37
set_option linter.unusedSimpArgs false
set_option linter.unusedVariables false
namespace Go.Proofs.YtclpndigmidjkaaGreat
open Go.RowKit

/-- The world behind To: the store, the text and the changes. -/
structure ApSt (w w3 : World) (s : ByteArray) (a : Option Addr) (ps : List PS) (p mb : Nat) (L : List Ent) (id : Int) (d : Int) (va : Option Addr) (cs : List Chg) (n : Nat) : Prop where
  room : Room w.heap.size w3 p mb 1048576 L n
  big : L.length + n ≤ 1003000
  text : BalZ L id (sbs s) d
  chgs : RG Chg.vals 3 w.heap.size w3 va cs
  pchg : PChg L cs (ps.map PS.pc)
  args : RG PS.vals 3 w.heap.size w3 a ps
  fr : Fr0 w w3

theorem ApSt.kept0 {w w3 w4 : World} {s : ByteArray} {a : Option Addr} {ps : List PS} {p mb : Nat} {L : List Ent} {id : Int} {d : Int} {va : Option Addr} {cs : List Chg} {n : Nat} (h : ApSt w w3 s a ps p mb L id d va cs n) (hf : Fr0 w3 w4) : ApSt w w4 s a ps p mb L id d va cs n :=
  ⟨h.room.kept0 hf, h.big, h.text, h.chgs.kept0 hf, h.pchg, h.args.kept0 hf, h.fr.trans hf⟩

theorem ApSt.next {w w3 w4 : World} {s : ByteArray} {a : Option Addr} {ps : List PS} {p mb : Nat} {L L4 : List Ent} {id : Int} {d : Int} {va : Option Addr} {cs : List Chg} {n k m : Nat} (h : ApSt w w3 s a ps p mb L id d va cs n) (hS : Sto w.heap.size w4 p mb 1048576 L4) (hK : Kp w.heap.size mb w3 w4) (g : Grows L L4 k) (hk : k + m ≤ n) : ApSt w w4 s a ps p mb L4 id d va cs m :=
  ⟨h.room.next hS hK g hk, by have := h.big; have := g.len; omega, g.balz h.room.dok h.text, h.chgs.keptK hK, h.pchg.more g h.room.dok, h.args.keptK hK, Kp.all0 h.fr hK⟩

/-- What Text needs. -/
theorem ap_text {w w2 : World} {p mb : Nat} {L : List Ent} (hR : Room w.heap.size w2 p mb 1048576 L 1000000) (s : ByteArray) (hs : s.size ≤ 800) : ∃ cap f, (convert 9 72 (.string s)).run Tryz.prog w2 = .ok (.slice (some ⟨w2.heap.size, 0, none⟩) s.size cap) (w2.alloc (.cells (bytesRow s cap) 5 f)).drew ∧
    Calls Tryz.prog 31 #[.pointer (some ⟨p, 0, none⟩), .slice (some ⟨w2.heap.size, 0, none⟩) s.size cap] (w2.alloc (.cells (bytesRow s cap) 5 f)).drew (ZPost w.heap.size (w2.alloc (.cells (bytesRow s cap) 5 f)).drew p mb 1048576 L (sbs s) (fun d k => k ≤ 2 * s.size)) := by
  obtain ⟨cap, f, h1, h2, h3⟩ := conv_bytes w2 s
  have h4 := h3 (by unfold maxLen; omega)
  unfold maxLen at h4
  exact ⟨cap, f, h1, sto_TextN (sbs_len s) ((hR.less (by omega)).kept0 ((Fr0.refl w2).alloc _).drew) _ 0 cap (bytes_convH w2 _ rfl s cap f) (by omega) h2 h4⟩

/-- Behind Text and To. -/
theorem ApSt.mk' {w w2 wt w3 w4 : World} {s : ByteArray} {a : Option Addr} {ps : List PS} {p mb : Nat} {L L3 L4 : List Ent} {id d : Int} {k3 k4 : Nat} {v : Value} {cs : List Chg} (hR : Room w.heap.size w2 p mb 1048576 L 1000000) (hL : L.length ≤ 1000) (hF : Fr0 w w2) (hA : RG PS.vals 3 w.heap.size w a ps) (hc : s.size + costL ps ≤ 800)
    (h0 : Fr0 w2 wt) (hK3 : Kp w.heap.size mb wt w3) (g3 : Grows L L3 k3) (hk3 : k3 ≤ 2 * s.size) (hb : BalZ L3 id (sbs s) d)
    (hS4 : Sto w.heap.size w4 p mb 1048576 L4) (hK4 : Kp w.heap.size mb w3 w4) (g4 : Grows L3 L4 k4) (hk4 : k4 ≤ 2 * insP (ps.map PS.pc)) (ho : w4.ownsRow w3.heap.size 41 3 v cs.length (cs.flatMap Chg.vals)) (hP : PChg L4 cs (ps.map PS.pc)) :
    ∃ va vcap, v = .slice va cs.length vcap ∧ ApSt w w4 s a ps p mb L4 id d va cs 998000 := by
  obtain ⟨va, vcap, rfl, hrg⟩ := rg_of_own (vals := Chg.vals) (size := 3) (B := w.heap.size) (fun c _ => rfl) ho (by decide) (by decide)
  have hi := costL_ins ps
  have hF3 := Kp.all0 (hF.trans h0) hK3
  have hF4 := Kp.all0 hF3 hK4
  have hK := ((Kp.of0 (B := w.heap.size) (mb := mb) h0).trans hK3).trans hK4
  have hG : Grows L L4 1600 := g3.trans g4 (by omega)
  refine ⟨va, vcap, rfl, ⟨hR.next (k := 998000) hS4 hK hG (by omega), by have := hG.len; omega, g4.balz g3.dok hb, hrg, hP, hA.kept0 hF4, hF4⟩⟩

end Go.Proofs.YtclpndigmidjkaaGreat

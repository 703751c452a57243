/- The walk of evergreenlaw37.Plain. -/
import Derived.Test.YtclpndigmidjkaaGreatQf
import Derived.Test.YtclpndigmidjkaaGreatQStr
set_option linter.unusedSimpArgs false
set_option linter.unusedVariables false
namespace Go.Proofs.YtclpndigmidjkaaGreat
open Go.RowKit

theorem conv_str {w0 w : World} {v : Value} {t : List Int} (h : OwnB w0 w v t) (W : World) (hW : Fr0 w W) : (convert 72 9 v).run Tryz.prog W = .ok (.string (strOfNums t)) W := by
  have h := h.kept0 hW
  rcases h.row.2 with ⟨e1, e2⟩ | ⟨g, cap, cur, e1, _, hg, _, _, _, ht⟩
  · have : t = [] := List.eq_nil_of_length_eq_zero e2
    subst this
    rw [e1]
    exact run_convert_bytes_nil W 72 5 Tryz.underlying72 Tryz.underlying5 0 0 9 Tryz.underlying9
  · rw [e1]
    refine run_convert_bytes_arg W 72 5 Tryz.underlying72 Tryz.underlying5 g 0 t.length cap t rfl ?_ 9 Tryz.underlying9
    intro i hi
    have h1 := congrArg (fun l => l[i]?) ht
    simp only [Nat.mul_one, List.getElem?_map, List.getElem?_eq_getElem hi, Option.map_some] at h1
    rw [List.getElem?_take_of_lt hi] at h1
    rw [cell_of_block hg, Nat.zero_add, ← Array.getElem?_toList, h1, getD_at hi]

set_option maxRecDepth 100000 in
set_option maxHeartbeats 1000000 in
theorem law37_Plain {B : Nat} {w : World} {p mb : Nat} {most : Int} {L : List Ent} (hS : Sto B w p mb most L) (hO : SOk L) (hD : DOk L) (hBig : L.length ≤ 1000000) {id : Int} {t : List Int} {d : Int} (hb : BalZ L id t d) (hl : t.length ≤ 4096) :
    Calls Tryz.prog 52 #[.pointer (some ⟨p, 0, none⟩), .int .i64 id] w fun e w' => e = .returned (.tuple #[.string (strOfNums t), .bool true]) ∧ Fr0 w w' := by
  have CE := Lib.hid (st_Export hS hD hBig id hb.known)
  have CB := Lib.hid (fun W (hW : Fr0 w W) => sto_Balanced (hS.kept0 hW) id hb.known true hb.even)
  have HG : Hid (∀ rs, ((id = 0 ∧ rs = []) ∨ (id ≠ 0 ∧ ∃ out, Outs L id out ∧ rs = expo L out)) → ∃ tx, Gram rs tx ∧ lastT tx rs.length = t) := by
    intro rs h
    rcases h with ⟨h1, rfl⟩ | ⟨h1, out, h2, rfl⟩
    · exact ⟨fun _ => [], ⟨fun i hi => by simp at hi, fun i hi => by simp at hi, by simp⟩, (hb.of0 h1).1.symm⟩
    · exact ⟨_, expo_gram hD hO hBig (hb.bal h1) h2, expo_last (hb.bal h1) h2⟩
  clear hS hO hD hb
  go_enter Tryz.func52, Tryz.ntmps52
  go_wp2_with fail
  refine CE.out.mono ?_
  rintro e w1 ⟨rs, v, rfl, hR, hc⟩
  obtain ⟨tx, hG, hT⟩ := HG.out rs hc
  obtain ⟨a, cap, rfl, hA⟩ := rules_of_own hR
  have CP := Lib.hid (ref11_Plain (cap := cap) hA hG (by rw [hT]; exact hl))
  rw [hT] at CP
  have HF1 := Lib.hid hR.fr
  clear hc hG hT hA hR CE HG
  go_wp2_with fail
  refine CP.out.mono ?_
  rintro e w2 ⟨u, rfl, hU⟩
  have HF2 := Lib.hid (HF1.out.trans hU.fr)
  have HU := Lib.hid hU
  clear hU CP HF1
  go_wp2_with fail
  refine (CB.out _ HF2.out).mono ?_
  rintro e w3 ⟨rfl, hf3⟩
  have hcv : ∀ n, (convert 72 9 u).run Tryz.prog (w3.drewN n) = .ok (.string (strOfNums t)) (w3.drewN n) := fun n => conv_str HU.out _ (hf3.drewN n)
  have hcv1 := conv_str HU.out w3.drew hf3.drew
  have HF3 := Lib.hid (HF2.out.trans hf3)
  clear hf3 HU HF2
  go_wp2_with fail
  go_quiet (fail)
  clear hcv hcv1
  go_wp2_with fail
  go_ret2
  exact ⟨rfl, HF3.out.drewN _⟩

end Go.Proofs.YtclpndigmidjkaaGreat

/- The walk of access.Extract (texts of different letters). -/
import Derived.Test.YtodmpcnpedpheaaDoorQAc4
import Derived.Test.YtodmpcnpedpheaaDoorQDq4
import Derived.Test.YtodmpcnpedpheaaDoorQKw5
import Derived.Laws.BytesArg
import Derived.Laws.IdiomStrings
set_option linter.unusedSimpArgs false
set_option linter.unusedVariables false
namespace Go.Proofs.YtodmpcnpedpheaaDoor
open Go.RowKit

theorem made_bytes (n : Nat) (hn : n ≤ 1000000) (w : World) :
    (Instr.makeSlice 45 (.int .i64 0) (.int .i64 (n : Int))).run Tryd.prog w = .ok (.slice (some ⟨w.heap.size, 0, none⟩) 0 n) (w.alloc (.cells (madeCells #[.int .u8 0] n) 5)) := by
  obtain ⟨_, _, _, hu, _⟩ := rt_byte3
  obtain ⟨i, hi, hzz⟩ := Option.map_eq_some_iff.1 info_byte3
  simp only [Prod.mk.injEq] at hzz
  obtain ⟨hz, hs, hb⟩ := hzz
  have hr := run_make (P := Tryd.prog) w 45 5 i _ hu hi hz .i64 .i64 0 (n : Int) (by omega) (by omega) (by rw [hb]; omega) (by omega)
  rw [hs, show (Value.int .u8 0).cells = #[.int .u8 0] from rfl] at hr
  simpa using hr

set_option maxRecDepth 100000 in
set_option maxHeartbeats 4000000 in
theorem ac_Extract {B mb : Nat} {w : World} {p : Nat} {most : Int} {L : List Ent} (hS : Sto B w p mb most L) (hSO : SOk L) (hD : DOk L) (hU : Uq L) (hBw : B ≤ w.heap.size) (id : Int) (hk : isKnown L id) (f n : Nat) (hfit : f + n ≤ (txt L id).length) (hnd : (txt L id).Nodup) (hl : (txt L id).length ≤ 1000) (hm : 4 * n * id.toNat ≤ 800000) :
    Calls Tryd.prog 60 #[.pointer (some ⟨p, 0, none⟩), .int .i64 id, .int .i64 f, .int .i64 n] w fun e w' => ∃ v, e = .returned (.tuple #[v, .nilIface]) ∧ w'.ownsRow w.heap.size 5 1 v (rngT (txt L id) f n).length ((rngT (txt L id) f n).flatMap byz) ∧ Fr0 w w' := by
  have HS := Lib.hid hS
  have CW := Lib.hid (fun W (hW : Fr0 w W) => sto_Weight (hS.keptO (Ko.of0 hW)) id hk)
  have hlw := txt_len hD hSO _ id (Nat.le_refl _) hk
  rw [← hlw] at CW
  generalize (entAt L id).wt = wt at *
  have CR := Lib.hid (fun W => len_Range_ok (f : Int) (n : Int) ((txt L id).length : Int) W (by omega) (by omega) (by omega) (by omega))
  have q1 : decide ((65536 : Int) < (n : Int)) = false := decide_eq_false (by omega)
  have q2 := made_bytes n (by omega)
  have F1 : Fr0 w (w.alloc (.cells #[.pointer (some ⟨p, 0, none⟩)] 29 (0, 0))) := (Fr0.refl w).alloc _
  have b1 := alloc_at w (.cells #[.pointer (some ⟨p, 0, none⟩)] 29 (0, 0)) w.heap.size rfl
  have CW1 := Lib.hid (CW.out _ F1)
  have CPA := Lib.hid (fun W bt v (hW : Fr0 w W) (hT : Tx w.heap.size W bt v []) (hsb : W.heap[w.heap.size]? = some (Obj.cells #[.pointer (some ⟨p, 0, none⟩)] 29 (0, 0))) (hbt : B ≤ bt) => ac_parts (out := []) (hS.keptO (Ko.of0 hW)) hSO hD hU hT hsb hBw hbt (Fr.size hW) id hk f n hfit hnd hl (by simp) hm)
  clear hS CW hlw
  go_enter Tryd.func60, Tryd.ntmps60
  obtain ⟨s0, sf, ls⟩ := cells1t b1
  have HB1 := Lib.hid b1
  have HF1 := Lib.hid F1
  go_upto_region 1 with fail
  generalize w.alloc (.cells #[.pointer (some ⟨p, 0, none⟩)] 29 (0, 0)) = W1 at *
  clear F1 b1
  go_wp2_with fail
  refine CW1.out.mono ?_
  rintro e w2 ⟨rfl, f2⟩
  go_upto_region 4 with fail
  have F3 : Fr0 W1 (w2.alloc (.cells #[.int .i64 (txt L id).length, .int .i64 wt.lines, .int .i64 wt.head, .int .i64 wt.tail, .int .u64 wt.val, .int .u64 wt.scale] 83 (0, 0))) := f2.alloc _
  have b3 := alloc_at w2 (.cells #[.int .i64 (txt L id).length, .int .i64 wt.lines, .int .i64 wt.head, .int .i64 wt.tail, .int .u64 wt.val, .int .u64 wt.scale] 83 (0, 0)) w2.heap.size rfl
  generalize w2.alloc (.cells #[.int .i64 (txt L id).length, .int .i64 wt.lines, .int .i64 wt.head, .int .i64 wt.tail, .int .u64 wt.val, .int .u64 wt.scale] 83 (0, 0)) = W3 at *
  generalize w2.heap.size = K3 at *
  have HB3 := Lib.hid (F3.kept HB1.out)
  have HF3 := Lib.hid (HF1.out.trans F3)
  obtain ⟨e0, _, _, _, _, _, le, _⟩ := cells6t b3
  clear s0 sf ls f2 F3 b3 CW1 HB1 HF1
  go_wp2_with fail
  refine (CR.out W3).mono ?_
  rintro e w4 ⟨rfl, rfl⟩
  obtain ⟨s0, sf, ls⟩ := cells1t HB3.out
  go_wp2_with fail
  have F6 : Fr0 w ((W3.alloc (.cells (madeCells #[.int .u8 0] n) 5)).alloc (.cells #[.slice (some ⟨W3.heap.size, 0, none⟩) 0 n] 45 (0, 0))) := (HF3.out.alloc _).alloc _
  have hT6 : Tx w.heap.size ((W3.alloc (.cells (madeCells #[.int .u8 0] n) 5)).alloc (.cells #[.slice (some ⟨W3.heap.size, 0, none⟩) 0 n] 45 (0, 0))) (W3.heap.size + 1) (.slice (some ⟨W3.heap.size, 0, none⟩) 0 n) [] :=
    ⟨alloc2_1 W3 _ _, rfl, .inr ⟨W3.heap.size, n, _, rfl, Fr.size HF3.out, alloc2_0 W3 _ _, Nat.zero_le _, by unfold maxLen; omega, by rw [size_madeCells]; omega, by simp⟩⟩
  have hs6 := (((Fr0.refl W3).alloc (.cells (madeCells #[.int .u8 0] n) 5)).alloc (.cells #[.slice (some ⟨W3.heap.size, 0, none⟩) 0 n] 45 (0, 0))).kept HB3.out
  have hbt : B ≤ W3.heap.size + 1 := by have := Fr.size HF3.out; omega
  have CP := Lib.hid (CPA.out _ _ _ F6 hT6 hs6 hbt)
  have hw3 := Fr.size HF3.out
  have HF6 := Lib.hid F6
  generalize (W3.alloc (.cells (madeCells #[.int .u8 0] n) 5)).alloc (.cells #[.slice (some ⟨W3.heap.size, 0, none⟩) 0 n] 45 (0, 0)) = W6 at *
  generalize W3.heap.size = bb at *
  clear F6 hT6 hs6 CPA
  refine CP.out.mono ?_
  rintro e w7 ⟨v7, rfl, h7⟩
  have HF7 : Hid (Fr0 w w7) := Fr.trans HF6.out h7.fr (fun i hi hlt => by
    rcases hi with e | e
    · omega
    · have : bb = i := Option.some.inj e
      omega)
  rw [List.nil_append] at h7
  obtain ⟨va, vc, rfl⟩ := owns_form h7.tx.row
  have HR7 := Lib.hid h7.tx.row
  obtain ⟨t0, tf, lt⟩ := cells1t h7.tx.box
  clear h7 CP s0 sf ls e0 le
  go_wp2_with fail
  go_ret2
  exact ⟨_, rfl, HR7.out, HF7.out⟩

end Go.Proofs.YtodmpcnpedpheaaDoor

/- The walks of diff.Distance and diff.Ratio. -/
set_option linter.unusedSimpArgs false
set_option linter.unusedVariables false
namespace Go.Proofs.YtodmpcnpedpheaaDoor
open Go.RowKit

def distV (A B : List Int) : Value := if edp A B 0 0 ≤ 256 then .tuple #[.int .i64 (edp A B 0 0 : Nat), .nilIface] else .tuple #[.int .i64 0, errV 9]
def ratioV (A B : List Int) : Value := if edp A B 0 0 ≤ 256 then .tuple #[.int .i64 (((A.length : Int) + B.length - (edp A B 0 0 : Nat)) / 2), .nilIface] else .tuple #[.int .i64 0, errV 9]

set_option maxRecDepth 100000 in
set_option maxHeartbeats 4000000 in
theorem df_Distance {B0 : Nat} {w : World} {pp tp p mb : Nat} {most : Int} {L : List Ent} {T : List KRow} {a b : Int} {A B : List Int} (hp : Pq B0 w pp tp p mb most L T) (ha : SigOk L a) (hb : SigOk L b) (eA : txt L a = A) (eB : txt L b = B) (hA : A.length ≤ 300) (hB : B.length ≤ 300) :
    Calls Tryd.prog 11 #[.pointer (some ⟨pp, 0, none⟩), .int .i64 a, .int .i64 b] w (KyPost B0 w pp tp p mb most L (distV A B)) := by
  have C := df_compare hp ha hb eA eB hA hB
  unfold CqPost at C
  by_cases hD : edp A B 0 0 ≤ 256
  · have hV : distV A B = .tuple #[.int .i64 (edp A B 0 0 : Nat), .nilIface] := if_pos hD
    rw [hV]
    simp only [if_pos hD] at C
    have HC := Lib.hid C
    clear C hp ha hb
    generalize edp A B 0 0 = D at *
    clear hV
    go_enter Tryd.func11, Tryd.ntmps11
    go_wp2_with fail
    refine HC.out.mono ?_
    rintro e w1 ⟨tb, rs, v, rfl, hC, hl, hR⟩
    have CD := Lib.hid (df_distance hC.tab (by omega) (by omega))
    rw [hl, Nat.add_sub_cancel] at CD
    obtain ⟨T1, hP⟩ := hC.ex
    have HP := Lib.hid hP
    have HX := Lib.hid hC.kx
    clear hC hl hR hP HC
    go_wp2_with fail
    refine CD.out.mono ?_
    rintro e w2 ⟨rfl, rfl⟩
    go_wp2_with fail
    go_ret2
    exact ⟨T1, rfl, HP.out, HX.out⟩
  · have hV : distV A B = .tuple #[.int .i64 0, errV 9] := if_neg hD
    rw [hV]
    simp only [if_neg hD] at C
    have e9 : errV 9 = .iface 38 (.int .i64 9) := rfl
    rw [e9] at C ⊢
    have HC := Lib.hid C
    clear C hp ha hb hV e9
    go_enter Tryd.func11, Tryd.ntmps11
    go_wp2_with fail
    refine HC.out.mono ?_
    rintro e w1 ⟨rfl, ⟨T1, hP⟩, hX⟩
    have HP := Lib.hid hP
    have HX := Lib.hid hX
    clear hP hX HC
    go_wp2_with fail
    go_ret2
    exact ⟨T1, rfl, HP.out, HX.out⟩

set_option maxRecDepth 100000 in
set_option maxHeartbeats 4000000 in
theorem df_Ratio {B0 : Nat} {w : World} {pp tp p mb : Nat} {most : Int} {L : List Ent} {T : List KRow} {a b : Int} {A B : List Int} (hp : Pq B0 w pp tp p mb most L T) (ha : SigOk L a) (hb : SigOk L b) (eA : txt L a = A) (eB : txt L b = B) (hA : A.length ≤ 300) (hB : B.length ≤ 300) :
    Calls Tryd.prog 12 #[.pointer (some ⟨pp, 0, none⟩), .int .i64 a, .int .i64 b] w (KyPost B0 w pp tp p mb most L (ratioV A B)) := by
  have C := df_compare hp ha hb eA eB hA hB
  unfold CqPost at C
  have hgap := ed_gap A B
  rw [← edp_all] at hgap
  by_cases hD : edp A B 0 0 ≤ 256
  · have hV : ratioV A B = .tuple #[.int .i64 (((A.length : Int) + B.length - (edp A B 0 0 : Nat)) / 2), .nilIface] := if_pos hD
    rw [hV]
    simp only [if_pos hD] at C
    have HC := Lib.hid C
    clear C hp ha hb
    generalize edp A B 0 0 = D at *
    have q1 : IntKind.i64.wrap ((A.length : Int) + (B.length : Int)) = (A.length : Int) + (B.length : Int) := wrapI (by omega) (by omega)
    have q2 : IntKind.i64.wrap ((A.length : Int) + (B.length : Int) - (D : Int)) = (A.length : Int) + (B.length : Int) - (D : Int) := wrapI (by omega) (by omega)
    have q3 : (0 : Int) ≤ (A.length : Int) + (B.length : Int) - (D : Int) := by omega
    have Q4 : Hid (IntKind.i64.wrap (((A.length : Int) + (B.length : Int) - (D : Int)).tdiv 2) = ((A.length : Int) + (B.length : Int) - (D : Int)) / 2) := by
      show _ = _
      rw [Int.tdiv_eq_ediv_of_nonneg q3]
      exact wrapI (by omega) (by omega)
    clear hV
    go_enter Tryd.func12, Tryd.ntmps12
    go_wp2_with fail
    refine HC.out.mono ?_
    rintro e w1 ⟨tb, rs, v, rfl, hC, hl, hR⟩
    have CD := Lib.hid (fun W (hW : Fr0 w1 W) => df_distance (hC.tab.kept0 hW) (by omega) (by omega))
    rw [hl, Nat.add_sub_cancel] at CD
    obtain ⟨T1, hP⟩ := hC.ex
    have HP := Lib.hid hP
    have HX := Lib.hid hC.kx
    obtain ⟨c0, c1, c2, c3, c4, c5, lt, cf⟩ := cells6t hC.tab.box
    clear hC hl hR hP HC
    go_upto_region 4 with fail
    refine region_still (by kernel_rfl) (by kernel_rfl) ?_
    iterate 10 still_step
    still_call (CD.out _ (Fr0.refl w1).drew)
    iterate 4 still_step
    refine wpStill_nil ?_
    go_wp2_with fail
    go_ret2
    refine ⟨T1, ?_, HP.out.kept0 (Fr0.refl w1).drew, Ks.trans HX.out (Ks.of0 (Fr0.refl w1).drew)⟩
    exact congrArg (fun x => Ending.returned (.tuple #[.int .i64 x, .nilIface])) Q4.out
  · have hV : ratioV A B = .tuple #[.int .i64 0, errV 9] := if_neg hD
    rw [hV]
    simp only [if_neg hD] at C
    have e9 : errV 9 = .iface 38 (.int .i64 9) := rfl
    rw [e9] at C ⊢
    have HC := Lib.hid C
    clear C hp ha hb hV e9
    go_enter Tryd.func12, Tryd.ntmps12
    go_wp2_with fail
    refine HC.out.mono ?_
    rintro e w1 ⟨rfl, ⟨T1, hP⟩, hX⟩
    have HP := Lib.hid hP
    have HX := Lib.hid hX
    clear hP hX HC
    go_wp2_with fail
    go_ret2
    exact ⟨T1, rfl, HP.out, HX.out⟩

end Go.Proofs.YtodmpcnpedpheaaDoor

/- Strings as letters; balance.Text over a store with room. -/
set_option linter.unusedSimpArgs false
set_option linter.unusedVariables false
namespace Go.Proofs.YtodmpcnpedpheaaDoor
open Go.RowKit

/-- The letters of a string. -/
def sbs (s : ByteArray) : List Int := s.data.toList.map fun b => (b.toNat : Int)

theorem sbs_len (s : ByteArray) : (sbs s).length = s.size := by unfold sbs; rw [List.length_map]; rfl
theorem sbs_rng (s : ByteArray) : ∀ x ∈ sbs s, 0 ≤ x ∧ x < 256 := by
  intro x hx
  obtain ⟨b, _, rfl⟩ := List.mem_map.1 hx
  have := b.toNat_lt
  omega
theorem str_sbs (s : ByteArray) : strOfNums (sbs s) = s := by
  obtain ⟨d⟩ := s
  unfold strOfNums sbs
  congr 1
  rw [List.map_map]
  have : (fun n : Int => UInt8.ofNat n.toNat) ∘ (fun b : UInt8 => (b.toNat : Int)) = id := by
    funext b
    simp
  rw [this]
  simp
theorem sbs_str {t : List Int} (h : ∀ x ∈ t, 0 ≤ x ∧ x < 256) : sbs (strOfNums t) = t := by
  unfold sbs
  rw [strOfNums_data, List.map_map]
  conv => rhs; rw [← List.map_id t]
  refine List.map_congr_left fun x hx => ?_
  have := h x hx
  simp only [Function.comp, id, UInt8.toNat_ofNat']
  omega
theorem str_inj {s t : List Int} (hs : ∀ x ∈ s, 0 ≤ x ∧ x < 256) (ht : ∀ x ∈ t, 0 ≤ x ∧ x < 256) : strOfNums s = strOfNums t ↔ s = t := by
  refine ⟨fun h => ?_, fun h => by rw [h]⟩
  rw [← sbs_str hs, ← sbs_str ht, h]

/-- The text of a text by halves. -/
theorem textR_txt : ∀ (f : Nat) (L : List Ent) (bs : List Int), SOk L → DOk L → 1 ≤ bs.length → bs.length ≤ f → bs.length ≤ 65536 → (∀ x ∈ bs, 0 ≤ x ∧ x < 256) → txt (textR f L bs).1 (textR f L bs).2 = bs := by
  intro f
  induction f with
  | zero => intro L bs _ _ h1 h2; omega
  | succ f ih =>
    intro L bs hs hd h1 h2 h3 hr
    have hok := textR_ok (f + 1) L bs hs hd h1 h2 h3 hr
    revert hok
    unfold textR
    by_cases h : bs.length = 1
    · rw [if_pos h]
      obtain ⟨b, rfl⟩ : ∃ b, bs = [b] := List.length_eq_one_iff.1 h
      intro hok
      have e := ent_letter hd b
      have k := txt_letter hok.known hok.ne (by show (entAt (addL L (letterEnt b)) (addI L (letterEnt b))).rule.kind = 1; rw [e]; rfl)
      refine k.trans ?_
      show [(entAt (addL L (letterEnt b)) (addI L (letterEnt b))).rule.letter] = _
      rw [e]; rfl
    · rw [if_neg h]
      intro hok
      have ra : ∀ x ∈ bs.take (bs.length / 2), 0 ≤ x ∧ x < 256 := fun x hx => hr x (List.mem_of_mem_take hx)
      have rb : ∀ x ∈ bs.drop (bs.length / 2), 0 ≤ x ∧ x < 256 := fun x hx => hr x (List.mem_of_mem_drop hx)
      have ta := textR_ok f L (bs.take (bs.length / 2)) hs hd (by simp; omega) (by simp; omega) (by simp; omega) ra
      have tb := textR_ok f (textR f L (bs.take (bs.length / 2))).1 (bs.drop (bs.length / 2)) ta.sok ta.dok (by simp; omega) (by simp; omega) (by simp; omega) rb
      have ia := ih L (bs.take (bs.length / 2)) hs hd (by simp; omega) (by simp; omega) (by simp; omega) ra
      have ib := ih (textR f L (bs.take (bs.length / 2))).1 (bs.drop (bs.length / 2)) ta.sok ta.dok (by simp; omega) (by simp; omega) (by simp; omega) rb
      generalize textR f L (bs.take (bs.length / 2)) = XA at *
      generalize textR f XA.1 (bs.drop (bs.length / 2)) = XB at *
      obtain ⟨A, a⟩ := XA
      obtain ⟨C, c⟩ := XB
      dsimp only at *
      have e := ent_pair tb.dok a c
      obtain ⟨M, hM⟩ := tb.ext
      obtain ⟨N, hN⟩ := addL_ext C (pairEnt C a c)
      have ka : isKnown C a := by rw [hM]; exact isKnown_append M ta.known
      have k := txt_pair hok.dok hok.known hok.ne (by show (entAt (addL C (pairEnt C a c)) (addI C (pairEnt C a c))).rule.kind = 2; rw [e]; rfl)
      refine k.trans ?_
      show txt (addL C (pairEnt C a c)) (entAt (addL C (pairEnt C a c)) (addI C (pairEnt C a c))).rule.left ++ txt (addL C (pairEnt C a c)) (entAt (addL C (pairEnt C a c)) (addI C (pairEnt C a c))).rule.right = _
      rw [e]
      show txt (addL C (pairEnt C a c)) a ++ txt (addL C (pairEnt C a c)) c = _
      rw [hN, txt_append tb.dok N ka, txt_append tb.dok N tb.known]
      have ea : txt C a = txt A a := by rw [hM]; exact txt_append ta.dok M ta.known
      rw [ea, ia, ib, List.take_append_drop]

theorem textR_bal {f : Nat} {L : List Ent} {bs : List Int} (hs : SOk L) (hd : DOk L) (h1 : 1 ≤ bs.length) (h2 : bs.length ≤ f) (h3 : bs.length ≤ 65536) (hr : ∀ x ∈ bs, 0 ≤ x ∧ x < 256) :
    Bal (textR f L bs).1 (textR f L bs).2 bs (clog bs.length) ∧ Grows L (textR f L bs).1 (2 * bs.length) := by
  have h := textR_ok f L bs hs hd h1 h2 h3 hr
  exact ⟨⟨h.known, h.ne, textR_txt f L bs hs hd h1 h2 h3 hr, h.even, h.depth⟩, ⟨h.ext, by have := h.len; omega, h.sok, h.dok⟩⟩

/-- Text of any letters. -/
theorem sto_Text {B : Nat} {w : World} {p mb : Nat} {most : Int} {L : List Ent} {bs : List Int} (hR : Room B w p mb most L (2 * bs.length)) (bb off cap : Nat) (hB : BytesAt w bb off bs) (h3 : bs.length ≤ 65536) (hc : bs.length ≤ cap) (hc2 : cap ≤ 9223372036854775807) :
    Calls Tryd.prog 61 #[.pointer (some ⟨p, 0, none⟩), .slice (some ⟨bb, off, none⟩) bs.length cap] w (ZPost B w p mb most L bs (fun d k => k ≤ 2 * bs.length)) := by
  by_cases h0 : bs.length = 0
  · have e : bs = [] := List.eq_nil_of_length_eq_zero h0
    subst e
    refine (bal_Text_nil (w := w) (p := p) (some ⟨bb, off, none⟩) cap).mono ?_
    rintro e w' ⟨rfl, rfl⟩
    exact ZPost.same hR (Fr0.refl w) (BalZ.zero L) (by simp)
  · obtain ⟨sv, hS, s1, s2, s3⟩ := hR.st
    have hb := textR_bal (f := bs.length) hR.sok hR.dok (by omega) (Nat.le_refl _) h3 hB.rng
    refine (bal_Text hS hR.sok hR.dok bb off bs.length cap bs hB rfl (by omega) h3 hc hc2 hR.most hR.big).mono ?_
    rintro e w' ⟨rfl, hst⟩
    obtain ⟨q1, q2⟩ := Sto.step hS s1 s2 s3 hR.base hst
    exact ⟨_, _, _, _, rfl, q1, q2, hb.2, hb.1.z, Nat.le_refl _⟩

theorem sto_TextN {B : Nat} {w : World} {p mb : Nat} {most : Int} {L : List Ent} {bs : List Int} {n : Nat} (hn : bs.length = n) (hR : Room B w p mb most L (2 * n)) (bb off cap : Nat) (hB : BytesAt w bb off bs) (h3 : n ≤ 65536) (hc : n ≤ cap) (hc2 : cap ≤ 9223372036854775807) :
    Calls Tryd.prog 61 #[.pointer (some ⟨p, 0, none⟩), .slice (some ⟨bb, off, none⟩) n cap] w (ZPost B w p mb most L bs (fun d k => k ≤ 2 * n)) := by
  subst hn
  exact sto_Text hR bb off cap hB h3 hc hc2

/-- The bytes of a string, as a conversion leaves them. -/
theorem bytes_conv (w : World) (s : ByteArray) (cap : Nat) (f : Nat × Nat) : BytesAt (w.alloc (.cells (bytesRow s cap) 5 f)) w.heap.size 0 (sbs s) := by
  refine ⟨⟨_, _, alloc_at _ _ _ rfl, fun i hi => ?_⟩, sbs_rng s⟩
  have hs : i < s.data.size := by rw [sbs_len] at hi; exact hi
  rw [Nat.zero_add, bytesRow_at s cap i hs]
  simp [sbs]

theorem bytes_convH (w : World) (H : Nat) (hH : w.heap.size = H) (s : ByteArray) (cap : Nat) (f : Nat × Nat) : BytesAt (w.alloc (.cells (bytesRow s cap) 5 f)).drew H 0 (sbs s) := by
  subst hH
  exact ⟨(bytes_conv w s cap f).blk, sbs_rng s⟩

theorem conv_bytes (w : World) (s : ByteArray) : ∃ cap f, (convert 9 45 (.string s)).run Tryd.prog w = .ok (.slice (some ⟨w.heap.size, 0, none⟩) s.size cap) (w.alloc (.cells (bytesRow s cap) 5 f)).drew ∧ s.size ≤ cap ∧ (s.size ≤ maxLen → cap ≤ maxLen) :=
  ⟨grownCap w s.size 0 5, _, run_bytes_of_string w 9 45 5 s Tryd.underlying9 Tryd.underlying45 Tryd.underlying5, grownCap_ge _ _ _ _, fun h => grownCap_le_maxLen _ _ _ _ h⟩

end Go.Proofs.YtodmpcnpedpheaaDoor

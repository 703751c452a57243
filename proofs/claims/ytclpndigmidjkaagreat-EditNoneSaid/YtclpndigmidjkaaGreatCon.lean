/- Depths and lengths of balanced texts, and the walk of balance.Concat. -/
import Derived.Test.YtclpndigmidjkaaGreatOwn
set_option linter.unusedSimpArgs false
set_option linter.unusedVariables false
namespace Go.Proofs.YtclpndigmidjkaaGreat
open Go.RowKit

/-- The least length of a balanced text of a depth. -/
def lst : Nat → Nat
  | 0 => 1
  | 1 => 2
  | n + 2 => lst (n + 1) + lst n

theorem lst_pos : ∀ n, 1 ≤ lst n
  | 0 => by simp [lst]
  | 1 => by simp [lst]
  | n + 2 => by have := lst_pos (n + 1); simp only [lst]; omega
theorem lst_step (n : Nat) : lst n ≤ lst (n + 1) := by
  cases n with
  | zero => simp [lst]
  | succ n => simp only [lst]; omega
theorem lst_mono {a b : Nat} (h : a ≤ b) : lst a ≤ lst b := by
  induction b with
  | zero => have : a = 0 := by omega
            subst this; exact Nat.le_refl _
  | succ b ih =>
    by_cases e : a = b + 1
    · subst e; exact Nat.le_refl _
    · exact Nat.le_trans (ih (by omega)) (lst_step b)

theorem bal_lst {L : List Ent} (hd : DOk L) (hs : SOk L) : ∀ (n : Nat) (id : Int) (t : List Int) (d : Int), d.toNat < n → Bal L id t d → lst d.toNat ≤ t.length := by
  intro n
  induction n with
  | zero => intro id t d h; omega
  | succ n ih =>
    intro id t d hn hb
    have d0 : 0 ≤ d := by have := (hs.at id hb.known).2.1; rw [hb.depth] at this; exact this
    by_cases h : d = 0
    · have := bal_one hd hs hb h
      subst h
      rw [this]; exact Nat.le_refl _
    · obtain ⟨l, r, tl, tr, dl, dr, hru, hbl, hbr, hst, hdd, hd1, hd2⟩ := bal_parts hd hb (by omega)
      have dl0 : 0 ≤ dl := by have := (hs.at l hbl.known).2.1; rw [hbl.depth] at this; exact this
      have dr0 : 0 ≤ dr := by have := (hs.at r hbr.known).2.1; rw [hbr.depth] at this; exact this
      have i1 := ih l tl dl (by omega) hbl
      have i2 := ih r tr dr (by omega) hbr
      rw [hst, List.length_append]
      by_cases e : d = 1
      · have := lst_pos dl.toNat
        have := lst_pos dr.toNat
        subst e
        show 2 ≤ _
        omega
      · obtain ⟨m, hm⟩ : ∃ m : Nat, d.toNat = m + 2 := ⟨d.toNat - 2, by omega⟩
        rw [hm]
        simp only [lst]
        have h1 : lst m ≤ lst (min dl dr).toNat := lst_mono (by omega)
        have h2 : lst (m + 1) ≤ lst (max dl dr).toNat := lst_mono (by omega)
        by_cases c : dl ≤ dr
        · rw [show min dl dr = dl by omega] at h1
          rw [show max dl dr = dr by omega] at h2
          omega
        · rw [show min dl dr = dr by omega] at h1
          rw [show max dl dr = dl by omega] at h2
          omega

/-- A text that is shorter than the least one of depth D + 1 has at most depth D. -/
theorem BalZ.deep {L : List Ent} {id : Int} {t : List Int} {d : Int} (h : BalZ L id t d) (hd : DOk L) (hs : SOk L) {D : Nat} (hD : t.length < lst (D + 1)) : 0 ≤ d ∧ d ≤ D := by
  have d0 : 0 ≤ d := by have := (hs.at id h.known).2.1; rw [h.depth] at this; exact this
  refine ⟨d0, ?_⟩
  by_cases e : id = 0
  · have := (h.of0 e).2; omega
  · have h1 := bal_lst hd hs (d.toNat + 1) id t d (by omega) (h.bal e)
    by_cases c : d ≤ D
    · exact c
    · have : lst (D + 1) ≤ lst d.toNat := lst_mono (by omega)
      omega

/-- IDs of texts. -/
def AllB (L : List Ent) : List Int → List (List Int) → Prop
  | [], [] => True
  | id :: ids, t :: ts => (∃ d, BalZ L id t d) ∧ AllB L ids ts
  | _, _ => False

theorem AllB.len {L : List Ent} : ∀ {ids : List Int} {ts : List (List Int)}, AllB L ids ts → ids.length = ts.length
  | [], [], _ => rfl
  | _ :: ids, _ :: ts, h => by simp [AllB.len h.2]
theorem AllB.get {L : List Ent} : ∀ {ids : List Int} {ts : List (List Int)}, AllB L ids ts → ∀ (i : Nat) (h1 : i < ids.length) (h2 : i < ts.length), ∃ d, BalZ L ids[i] ts[i] d
  | _ :: ids, _ :: ts, h, 0, _, _ => h.1
  | _ :: ids, _ :: ts, h, i + 1, h1, h2 => by
    have := AllB.get h.2 i (by simpa using h1) (by simpa using h2)
    simpa using this
theorem AllB.more {L L' : List Ent} {n : Nat} (hg : Grows L L' n) (hd : DOk L) : ∀ {ids : List Int} {ts : List (List Int)}, AllB L ids ts → AllB L' ids ts
  | [], [], _ => trivial
  | _ :: ids, _ :: ts, h => ⟨by obtain ⟨d, hb⟩ := h.1; exact ⟨d, hg.balz hd hb⟩, AllB.more hg hd h.2⟩
theorem AllB.snoc {L : List Ent} : ∀ {ids : List Int} {ts : List (List Int)}, AllB L ids ts → ∀ {id : Int} {t : List Int} {d : Int}, BalZ L id t d → AllB L (ids ++ [id]) (ts ++ [t])
  | [], [], _, _, _, _, hb => ⟨⟨_, hb⟩, trivial⟩
  | _ :: ids, _ :: ts, h, _, _, _, hb => ⟨h.1, AllB.snoc h.2 hb⟩
theorem AllB.append {L : List Ent} : ∀ {ids ids' : List Int} {ts ts' : List (List Int)}, AllB L ids ts → AllB L ids' ts' → AllB L (ids ++ ids') (ts ++ ts')
  | [], _, [], _, _, h' => h'
  | _ :: ids, _, _ :: ts, _, h, h' => ⟨h.1, AllB.append h.2 h'⟩

theorem flat_take (ts : List (List Int)) (k : Nat) (h : k < ts.length) : (ts.take (k + 1)).flatten = (ts.take k).flatten ++ ts[k] := by
  rw [List.take_succ_eq_append_getElem h, List.flatten_append]; simp
theorem flat_le (ts : List (List Int)) (k : Nat) : (ts.take k).flatten.length ≤ ts.flatten.length := by
  conv => rhs; rw [← List.take_append_drop k ts]
  rw [List.flatten_append, List.length_append]; omega

/-- The lengths of IDs. -/
def lenOf (L : List Ent) (id : Int) : Int := (entAt L id).wt.len

theorem sum_lens {L : List Ent} (hd : DOk L) (hs : SOk L) : ∀ {ids : List Int} {ts : List (List Int)}, AllB L ids ts → sumI (ids.map (lenOf L)) = ts.flatten.length
  | [], [], _ => rfl
  | id :: ids, t :: ts, h => by
    obtain ⟨d, hb⟩ := h.1
    have := sum_lens hd hs h.2
    have hl := hb.len hd hs
    simp only [List.map_cons, sumI, List.flatten_cons, List.length_append, lenOf, this]
    omega
theorem lens_nn {L : List Ent} (hd : DOk L) (hs : SOk L) : ∀ {ids : List Int} {ts : List (List Int)}, AllB L ids ts → ∀ x ∈ ids.map (lenOf L), 0 ≤ x
  | [], [], _, x, hx => by simp at hx
  | id :: ids, t :: ts, h, x, hx => by
    obtain ⟨d, hb⟩ := h.1
    have hl := hb.len hd hs
    simp only [List.map_cons, List.mem_cons] at hx
    rcases hx with rfl | hx
    · unfold lenOf; omega
    · exact lens_nn hd hs h.2 x hx

/-- The state of Concat's second loop. -/
structure ConR (B : Nat) (w wr : World) (p mb : Nat) (most : Int) (L : List Ent) (t : List Int) (D k : Nat) (id : Int) (L' : List Ent) : Prop where
  st : Sto B wr p mb most L'
  kp : Kp B mb w wr
  grows : Grows L L' (k * (3 * D + 1))
  bal : ∃ d, BalZ L' id t d

set_option maxRecDepth 100000 in
set_option maxHeartbeats 2000000 in
theorem bal_Concat {B : Nat} {w : World} {p mb : Nat} {most : Int} {L : List Ent} {ids : List Int} {ts : List (List Int)} {a : Option Addr} {cap : Nat} (D : Nat) (hR : Room B w p mb most L (ids.length * (3 * D + 1))) (hI : IntsAt w a ids) (hA : AllB L ids ts)
    (hl : ids.length ≤ 1000000) (ht : (ts.flatten.length : Int) ≤ 1152921504606846976) (hD : ts.flatten.length < lst (D + 1)) :
    Calls Tryz.prog 80 #[.pointer (some ⟨p, 0, none⟩), .slice a ids.length cap] w (ZPost B w p mb most L ts.flatten (fun d k => d ≤ D ∧ k ≤ ids.length * (3 * D + 1))) := by
  obtain ⟨i0, hi0, hz0, hz1, hz2⟩ := info_parts info_int
  have hu : Tryz.prog.underlying 32 = some (.slice 3) := Tryz.underlying32
  have HR := Lib.hid hR
  have HI := Lib.hid hI
  have HA := Lib.hid hA
  have HLE := Lib.hid hA.len
  have HT := Lib.hid ht
  have HTN := Lib.hid (show ts.flatten.length ≤ 1152921504606846976 by omega)
  have HD := Lib.hid hD
  have b2 : i0.bytes * ids.length ≤ 281474976710656 := by rw [hz2]; omega
  have b3 : ids.length ≤ maxLen := by unfold maxLen; omega
  clear hR hI hA ht hD
  go_enter Tryz.func80, Tryz.ntmps80
  go_wp2_with (at_make; refine wpList_make_own _ rfl _ _ _ rfl w.heap.size 3 i0 _ 1 hu hi0 hz0 hz1 .i64 .i64 _ ids.length rfl rfl rfl b2 b3 (Nat.le_refl _) ?_; intro w1 hown hgrow)
  have hO : OwnI 3 w w1 (.slice (some ⟨w.heap.size, 0, none⟩) 0 ids.length) [] := ⟨hown, Fr.grown (Fr0.refl w) hgrow (fun k hk => by cases hk)⟩
  have HO := Lib.hid hO
  clear hown hgrow hO b2 b3 hz0 hz1 hz2 hi0 hu
  go_loopw [6, 27] (fun v i wr => ∃ k : Nat, k ≤ ids.length ∧ i = .int .i64 k ∧ OwnI 3 w wr v ((ids.take k).map (lenOf L))) (fun _ i _ => ids.length - (intOf i).toNat)
  case atStart => exact ⟨0, Nat.zero_le _, rfl, HO.out⟩
  case round =>
    obtain ⟨k, hk, rfl, hO⟩ := hrel
    clear HO
    have HO := Lib.hid hO
    by_cases hlt : k < ids.length
    · obtain ⟨b, off, rfl, lb, hc⟩ := (HI.out.kept0 hO.fr).cell k hlt
      obtain ⟨d, hb⟩ := HA.out.get k hlt (by have := HLE.out; omega)
      have hS := HR.out.st.kept0 hO.fr
      have CB := Lib.hid (sto_Balanced hS ids[k] hb.known true hb.even)
      have CW := Lib.hid (fun W (hW : Fr0 wr W) => sto_Weight (hS.kept0 hW) ids[k] hb.known)
      have HY : Hid (lenOf L ids[k] = (entAt L ids[k]).wt.len) := rfl
      have HX := Lib.hid (show (ids.take (k + 1)).map (lenOf L) = (ids.take k).map (lenOf L) ++ [lenOf L ids[k]] by rw [List.take_succ_eq_append_getElem hlt, List.map_append]; rfl)
      have HL := Lib.hid (show ((ids.take k).map (lenOf L)).length ≤ 1000000 by rw [List.length_map, List.length_take]; omega)
      clear hb hS hO HA HI HR HLE HT HD
      generalize lenOf L ids[k] = ly at *
      generalize (entAt L ids[k]).wt = x at *
      generalize ids[k] = y at *
      go_wp2_with fail
      refine CB.out.mono ?_
      rintro e w2 ⟨rfl, f2⟩
      go_wp2_with fail
      refine (CW.out _ f2).mono ?_
      rintro e w3 ⟨rfl, f3⟩
      have hO3 := (HO.out.kept0 (f2.trans f3)).kept0 ((Fr0.refl w3).alloc (.cells #[.int .i64 x.len, .int .i64 x.lines, .int .i64 x.head, .int .i64 x.tail, .int .u64 x.val, .int .u64 x.scale] 157 (0, 0)))
      have hL := HL.out
      clear f2 f3 HL
      go_wp2_with (at_builtin; refine wpList_push rt_int rfl _ _ rfl _ _ rfl hO3 3 x.len 1 _ (by simp) rfl hL ?_; intro v' w4 hO4 hg4 hat4)
      go_roundw
      case rel => exact ⟨k + 1, by omega, by go_num, by rw [HX.out, HY.out]; exact hO4⟩
      case measure => simp [intOf]; omega
    · have hz : k = ids.length := by omega
      subst hz
      rw [List.take_length] at hO
      clear hk hlt HO
      obtain ⟨sa, scap, rfl, hIs⟩ := ints_of_own hO.row (by decide) (by decide)
      have hsum := sum_lens HR.out.dok HR.out.sok HA.out
      have CS := Lib.hid (len_Sum (cap := scap) hIs (lens_nn HR.out.dok HR.out.sok HA.out) (by rw [List.length_map]; exact hl) (by rw [hsum]; exact HT.out))
      rw [hsum] at CS
      rw [List.length_map] at CS ⊢
      have HFR := Lib.hid hO.fr
      clear hIs hsum hO
      generalize (ts.flatten.length : Int) = TT at *
      go_wp2_with fail
      refine CS.out.mono ?_
      rintro e w' ⟨rfl, rfl⟩
      clear CS
      go_wp2_with fail
      go_loopw [14, 68] (fun v i wx => ∃ (k : Nat) (id : Int) (L' : List Ent), k ≤ ids.length ∧ i = .int .i64 k ∧ v = .int .i64 id ∧ ConR B w wx p mb most L (ts.take k).flatten D k id L') (fun _ i _ => ids.length - (intOf i).toNat)
      case atStart => exact ⟨0, 0, L, Nat.zero_le _, rfl, rfl, HR.out.st.kept0 HFR.out, Kp.of0 HFR.out, (Grows.refl HR.out.sok HR.out.dok).le (by omega), ⟨0, BalZ.zero L⟩⟩
      case round =>
        obtain ⟨k, id, L', hk, rfl, rfl, hr⟩ := hrel
        by_cases hlt : k < ids.length
        · obtain ⟨b, off, rfl, lb, hc⟩ := (HI.out.keptK hr.kp).cell k hlt
          have hlt2 : k < ts.length := by have := HLE.out; omega
          obtain ⟨d, hb⟩ := HA.out.get k hlt hlt2
          have hb' := hr.grows.balz HR.out.dok hb
          obtain ⟨e, he⟩ := hr.bal
          have q1 := flat_take ts k hlt2
          have q2 := flat_le ts (k + 1)
          rw [q1, List.length_append] at q2
          have q3 := HD.out
          obtain ⟨d0, d1⟩ := hb'.deep hr.grows.dok hr.grows.sok (D := D) (by omega)
          obtain ⟨e0, e1⟩ := he.deep hr.grows.dok hr.grows.sok (D := D) (by omega)
          have q4 : (k + 1) * (3 * D + 1) ≤ ids.length * (3 * D + 1) := Nat.mul_le_mul_right _ (by omega)
          have q5 : (k + 1) * (3 * D + 1) = k * (3 * D + 1) + (3 * D + 1) := by rw [Nat.add_mul, Nat.one_mul]
          have qN : joinN e d ≤ 3 * D + 1 := by unfold joinN; omega
          have CJ := Lib.hid (avl_Join ((HR.out).next (k := joinN e d) hr.st hr.kp hr.grows (by omega)) he hb' (by have := HTN.out; omega))
          have HK := Lib.hid hr.kp
          have HG := Lib.hid hr.grows
          have Q1 := Lib.hid q1
          have Q5 := Lib.hid q5
          have QN := Lib.hid qN
          clear hb hb' he hr q1 q2 q3 q4 q5 qN HA HI HR HLE HT HD
          generalize ids[k] = y at *
          go_wp2_with fail
          refine CJ.out.mono ?_
          rintro e w4 ⟨L2, z, dz, kz, rfl, hS2, hK2, g2, bz, hz1, hz2⟩
          have HN : Hid (ConR B w w4 p mb most L (ts.take (k + 1)).flatten D (k + 1) z L2) := ⟨hS2, HK.out.trans hK2, HG.out.trans g2 (by have := Q5.out; have := QN.out; omega), dz, by rw [Q1.out]; exact bz⟩
          clear hS2 hK2 g2 bz CJ hz1
          go_wp2_with fail
          go_roundw
          case rel => exact ⟨k + 1, z, L2, by omega, by go_num, rfl, HN.out⟩
          case measure => simp [intOf]; omega
        · have hz : k = ids.length := by omega
          have hz2 : (ts.take k).flatten = ts.flatten := by rw [hz, HLE.out, List.take_length]
          obtain ⟨e, he⟩ := hr.bal
          rw [hz2] at he
          obtain ⟨e0, e1⟩ := he.deep hr.grows.dok hr.grows.sok HD.out
          have HX : Hid (ZPost B w p mb most L ts.flatten (fun d k => d ≤ D ∧ k ≤ ids.length * (3 * D + 1)) (.returned (.tuple #[.int .i64 id, .nilIface])) wr) := ⟨L', id, e, _, rfl, hr.st, hr.kp, hr.grows, he, e1, by rw [hz]; exact Nat.le_refl _⟩
          clear hr he hz hz2 HA HI HR HLE HT HD
          go_wp2_with fail
          go_ret2
          exact HX.out

end Go.Proofs.YtclpndigmidjkaaGreat

/- The walk of patch.Of. -/
import Derived.Test.YtclpndigmidjkaaGreatQPe1
set_option linter.unusedSimpArgs false
set_option linter.unusedVariables false
namespace Go.Proofs.YtclpndigmidjkaaGreat
open Go.RowKit

theorem chg_len {T : List (Int × Int)} {p : EP} (h : p.code T.length = 0) : ((patG embC T 0 p.chg).length : Int) = T.length - p.n + p.text.length := by
  obtain ⟨_, h1, h2, h3⟩ := EP.fits_of h
  have := patG_len embC T p.chg 0 (-1) (EP.chg_valid h) (by omega) (by omega) (by omega)
  rw [this]
  unfold EP.chg
  split
  · next hc => rw [hc.1, hc.2]; simp [delP, insP]
  · simp [delP, insP]

/-- An edit that changes nothing. -/
theorem chg_none {T : List (Int × Int)} {p : EP} (h : p.n = 0 ∧ p.text = []) : patG embC T 0 p.chg = T := by
  unfold EP.chg
  rw [if_pos h]
  simp [patG]
theorem chg_some {p : EP} (h : ¬ (p.n = 0 ∧ p.text = [])) : p.chg = [⟨p.at_, p.n, p.text⟩] := if_neg h

/-- The state of Of's loop. -/
structure OfR (MT : Nat) (L : List Ent) (w wr : World) (n : Nat) (ps : List EP) (k : Nat) (v : Value) (now : Int) (xs : List Pm) : Prop where
  pcs : Pcs MT L w wr v xs (runS (runC 0 n) (ps.take k)).1 (1 + 4 * k)
  code : (runS (runC 0 n) (ps.take k)).2 = 0
  now : now = ((runS (runC 0 n) (ps.take k)).1.length : Int)
  pos : (∀ y ∈ xs, 0 < y.n) ∨ (xs = [⟨0, 0, (n : Int)⟩] ∧ (runS (runC 0 n) (ps.take k)).1 = runC 0 n)

theorem OfR.kept0 {MT : Nat} {L : List Ent} {w wr w' : World} {n : Nat} {ps : List EP} {k : Nat} {v : Value} {now : Int} {xs : List Pm} (h : OfR MT L w wr n ps k v now xs) (hf : Fr0 wr w') : OfR MT L w w' n ps k v now xs := ⟨h.pcs.kept0 hf, h.code, h.now, h.pos⟩

theorem run_ok {T : List (Int × Int)} {ps : List EP} {k : Nat} (hk : k < ps.length) (h0 : (runS T (ps.take k)).2 = 0) (hc : ps[k].code (runS T (ps.take k)).1.length = 0) : runS T (ps.take (k + 1)) = (patG embC (runS T (ps.take k)).1 0 ps[k].chg, 0) := by
  rw [runS_snoc _ _ _ hk]
  unfold stS
  rw [if_neg (by rw [h0]; simp), if_pos hc]
theorem run_bad {T : List (Int × Int)} {ps : List EP} {k : Nat} (hk : k < ps.length) (h0 : (runS T (ps.take k)).2 = 0) (hc : ps[k].code (runS T (ps.take k)).1.length ≠ 0) : (runS T ps).2 = ps[k].code (runS T (ps.take k)).1.length := by
  have h1 : runS T (ps.take (k + 1)) = ((runS T (ps.take k)).1, ps[k].code (runS T (ps.take k)).1.length) := by
    rw [runS_snoc _ _ _ hk]
    unfold stS
    rw [if_neg (by rw [h0]; simp), if_neg hc]
  rw [runS_stuck T ps (k + 1) (by rw [h1]; exact hc), h1]

/-- Nothing to do. -/
theorem OfR.same {MT : Nat} {L : List Ent} {w wr : World} {n : Nat} {ps : List EP} {k : Nat} {v : Value} {now : Int} {xs : List Pm} (h : OfR MT L w wr n ps k v now xs) (hk : k < ps.length) (hc : ps[k].code now = 0) (hz : ps[k].n = 0 ∧ ps[k].text = []) (w' : World) (hf : Fr0 wr w') : OfR MT L w w' n ps (k + 1) v (now - ps[k].n + (ps[k].text.length : Int)) xs := by
  rw [h.now] at hc
  have hr := run_ok hk h.code hc
  have hl := chg_len hc
  rw [chg_none hz] at hr hl
  have hp := h.pcs.kept0 hf
  refine ⟨⟨hp.own, hp.fr, by rw [hr]; exact hp.flat, hp.ok, by have := hp.cnt; omega⟩, by rw [hr], by rw [hr, h.now]; exact hl.symm, ?_⟩
  rcases h.pos with h1 | ⟨h1, h2⟩
  · exact .inl h1
  · exact .inr ⟨h1, by rw [hr]; exact h2⟩

/-- After replace. -/
theorem OfR.next {MT : Nat} {L : List Ent} {w wr w' : World} {n : Nat} {ps : List EP} {k : Nat} {v v' : Value} {now : Int} {xs ys : List Pm} (h : OfR MT L w wr n ps k v now xs) (hk : k < ps.length) (hc : ps[k].code now = 0) (hz : ¬ (ps[k].n = 0 ∧ ps[k].text = [])) (hp : Pcs MT L w w' v' ys (patG embC (runS (runC 0 n) (ps.take k)).1 0 [⟨ps[k].at_, ps[k].n, ps[k].text⟩]) (1 + 4 * k + 3 * 1 + 1)) (hpos : ∀ y ∈ ys, 0 < y.n) : OfR MT L w w' n ps (k + 1) v' (now - ps[k].n + (ps[k].text.length : Int)) ys := by
  rw [h.now] at hc
  have hr := run_ok hk h.code hc
  have hl := chg_len hc
  rw [chg_some hz] at hr hl
  refine ⟨?_, by rw [hr], by rw [hr, h.now]; exact hl.symm, .inl hpos⟩
  rw [hr]
  exact ⟨hp.own, hp.fr, hp.flat, hp.ok, by have := hp.cnt; omega⟩

theorem rg_one_chg (B : Nat) (w : World) (a n x : Int) (H : Nat) (hH : w.heap.size = H) : RG Chg.vals 3 B (w.alloc (.cells #[.int .i64 a, .int .i64 n, .int .i64 x] 41 (0, 0))) (some ⟨H, 0, none⟩) [⟨a, n, x⟩] := by
  subst hH
  intro i hi
  have hb := alloc_at w (.cells #[.int .i64 a, .int .i64 n, .int .i64 x] 41 (0, 0)) _ rfl
  match i, hi with
  | 0, _ =>
    refine ⟨_, 0, rfl, lt_of_block hb, .inr ⟨_, _, _, hb, by decide, by decide⟩, fun j u hj => ?_⟩
    rw [cell_of_block hb]
    match j, hj with
    | 0, hj => exact hj
    | 1, hj => exact hj
    | 2, hj => exact hj
    | j + 3, hj => simp [Chg.vals] at hj

theorem btw_whole (n : Nat) : btw n 0 [] (runC 0 n) = [] := by
  have := btw_run' n n 0 [] (by omega)
  rw [List.append_nil] at this
  rw [this, btw, chgIf_no (by simp)]

/-- What Of leaves: the changes, or the error. -/
def OfPost (B : Nat) (w : World) (p mb : Nat) (most : Int) (L : List Ent) (n : Nat) (ps : List EP) (N : Nat) (e : Ending) (w' : World) : Prop :=
  ((runS (runC 0 n) ps).2 = 0 ∧ ClPost B w p mb most L (btw n 0 [] (runS (runC 0 n) ps).1) N e w') ∨
  ((runS (runC 0 n) ps).2 ≠ 0 ∧ e = .returned (.tuple #[.slice none 0 0, .iface 52 (.int .i64 (runS (runC 0 n) ps).2)]) ∧ Fr0 w w')

set_option maxRecDepth 100000 in
set_option maxHeartbeats 4000000 in
theorem pat_Of {B : Nat} {w : World} {p mb : Nat} {most : Int} {L : List Ent} (MT D n : Nat) {es : List Edt} {ps : List EP} {ea : Option Addr} {ecap : Nat} (hR : Room B w p mb most L ((2 + 4 * ps.length) * (14 * D + 2))) (hE : RG Edt.vals 5 B w ea es) (hP : PEd L es ps) (hl : ps.length ≤ 100000) (hM : ∀ c ∈ ps, c.text.length ≤ MT) (hMD : MT < lst (D + 1)) (hT : n + insE ps < lst (D + 1)) (hT2 : n + insE ps ≤ 100000000) :
    Calls Tryz.prog 33 #[.pointer (some ⟨p, 0, none⟩), .int .i64 n, .slice ea es.length ecap] w (OfPost B w p mb most L n ps ((2 + 4 * ps.length) * (14 * D + 2))) := by
  have hel := hP.len
  have CV := Lib.hid (fun W => len_Valid_yes n W (by omega) (by omega))
  have HW : Hid (OfR MT L w (w.alloc (.cells #[.int .i64 0, .int .i64 0, .int .i64 (n : Int)] 142 (0, 0))) n ps 0 (.slice (some ⟨w.heap.size, 0, none⟩) 1 1) (n : Int) [⟨0, 0, (n : Int)⟩]) := ⟨Pcs.one MT L (Fr0.refl w) n (by omega), rfl, by show _ = ((runC 0 n).length : Int); rw [runC_len], .inr ⟨rfl, rfl⟩⟩
  have HR := Lib.hid hR
  have HE := Lib.hid hE
  have HP := Lib.hid hP
  have HM := Lib.hid hM
  have HEL := Lib.hid hel
  have hel2 : es.length ≤ 100000 := by omega
  have HMEM := Lib.hid (fun k => runS_mem n (ps.take k))
  have HIT := Lib.hid (insE_take ps)
  have HMD := Lib.hid hMD
  have HT := Lib.hid hT
  clear hR hE hP hM hel hMD hT
  go_enter Tryz.func33, Tryz.ntmps33
  go_wp2_with fail
  refine (CV.out _).mono ?_
  rintro e w' ⟨rfl, rfl⟩
  go_wp2_with fail
  go_loopw [8, 9, 28] (fun v nv i wr => ∃ (k : Nat) (now : Int) (xs : List Pm), k ≤ es.length ∧ i = .int .i64 k ∧ nv = .int .i64 now ∧ OfR MT L w wr n ps k v now xs) (fun _ _ i _ => es.length - (intOf i).toNat)
  case atStart => exact ⟨0, n, _, Nat.zero_le _, rfl, rfl, HW.out⟩
  case round =>
    clear HW CV
    obtain ⟨k, now, xs, hk, rfl, rfl, hr⟩ := hrel
    have hnow : now ≤ n + insE ps ∧ 0 ≤ now := by
      have h1 := hr.now
      have h2 := (HMEM.out k).2
      have h3 := HIT.out k
      omega
    obtain ⟨now1, now0⟩ := hnow
    by_cases hlt : k < es.length
    · have hlt2 : k < ps.length := by have := HEL.out; omega
      obtain ⟨b, off, rfl, lbk, _, hc⟩ := (HE.out.kept0 hr.pcs.fr) k hlt
      have c0 := hc 0 _ rfl
      have c1 := hc 1 _ rfl
      have c2 := hc 2 _ rfl
      have c3 := hc 3 _ rfl
      have c4 := hc 4 _ rfl
      rw [Nat.add_zero] at c0
      obtain ⟨g0, g1, g2, g3, dx, hbx⟩ := HP.out.get k hlt hlt2
      have hins : insE (ps.take (k + 1)) ≤ insE ps := HIT.out (k + 1)
      have hins2 : insE (ps.take (k + 1)) = insE (ps.take k) + ps[k].text.length := by
        rw [List.take_succ_eq_append_getElem hlt2, insE_split]; simp [insE]
      have hnl : now ≤ n + insE (ps.take k) := by
        have h1 := hr.now
        have h2 := (HMEM.out k).2
        omega
      have hS := HR.out.st.kept0 hr.pcs.fr
      have hpe : (⟨es[k].kind, es[k].at_, es[k].n, es[k].to_, ps[k].text⟩ : EP) = ps[k] := by rw [g0, g1, g2, g3]
      have hpe : (⟨es[k].kind, es[k].at_, es[k].n, es[k].to_, ps[k].text⟩ : EP) = ps[k] := by rw [g0, g1, g2, g3]
      have hpe : (⟨es[k].kind, es[k].at_, es[k].n, es[k].to_, ps[k].text⟩ : EP) = ps[k] := by rw [g0, g1, g2, g3]
      by_cases hcd : ps[k].code now = 0
      · have CCH := Lib.hid (fun W (hW : Fr0 wr W) => pat_change_ok (hS.kept0 hW) HR.out.sok HR.out.dok now es[k].kind es[k].at_ es[k].n es[k].to_ es[k].text hbx (by rw [hpe]; exact hcd) (by omega))
        have hx0 := hbx.nil_iff HR.out.dok HR.out.sok
        by_cases hz : ps[k].n = 0 ∧ ps[k].text = []
        · have q1 : (es[k].n == 0) = true := beq_iff_eq.2 (by rw [g2]; exact hz.1)
          have q2 : (es[k].text == 0) = true := beq_iff_eq.2 (hx0.2 hz.2)
          have HN := Lib.hid (fun w' hf => hr.same hlt2 hcd hz w' hf)
          rw [← g2] at HN
          clear hc hbx hr hins hins2 hnl hS hpe hcd hx0 hz g0 g1 g2 g3 HE HP HM HMEM HIT
          generalize es[k] = c at *
          generalize (ps[k].text.length : Int) = tl at *
          go_wp2_with fail
          refine (CCH.out _ ((Fr0.refl wr).alloc (.cells #[.int .i64 c.kind, .int .i64 c.at_, .int .i64 c.n, .int .i64 c.to_, .int .i64 c.text] 78 (0, 0)))).mono ?_
          rintro e w3 ⟨rfl, f3⟩
          have F3 := (((Fr0.refl wr).alloc (.cells #[.int .i64 c.kind, .int .i64 c.at_, .int .i64 c.n, .int .i64 c.to_, .int .i64 c.text] 78 (0, 0))).trans f3).alloc (.cells #[.int .i64 c.at_, .int .i64 c.n, .int .i64 c.text] 41 (0, 0))
          have HX := Lib.hid (HN.out _ F3)
          clear F3 f3 HN CCH
          go_wp2_with fail
          go_roundw
          case rel => exact ⟨k + 1, _, xs, by omega, by go_num, rfl, HX.out⟩
          case measure => simp [intOf]; omega
        · have HNX := Lib.hid (fun w' v' ys hp hpos => hr.next (w' := w') (v' := v') (ys := ys) hlt2 hcd hz hp hpos)
          have hlen2 : ((runS (runC 0 n) (ps.take k)).1.length : Int) ≤ 1152921504606846976 := by rw [← hr.now]; omega
          have hvv : validP (runS (runC 0 n) (ps.take k)).1.length (-1) [⟨ps[k].at_, ps[k].n, ps[k].text⟩] = true := by
            have h1 := EP.chg_valid hcd
            rw [hr.now, chg_some hz] at h1
            exact h1
          have hpc : PChg L [⟨es[k].at_, es[k].n, es[k].text⟩] [⟨ps[k].at_, ps[k].n, ps[k].text⟩] := ⟨⟨g1, g2, dx, hbx⟩, trivial⟩
          have CRP := Lib.hid (fun W (hW : Fr0 wr W) H (hH : W.heap.size = H) => pat_replaceP (pcap := 1) ((hS.kept0 hW).kept0 ((Fr0.refl W).alloc _)) HR.out.sok HR.out.dok ((hr.pcs.kept0 hW).kept0 ((Fr0.refl W).alloc _)) hlen2 (rg_one_chg B W es[k].at_ es[k].n es[k].text H hH) hpc hvv (by simp; omega) (fun c hc => by simp at hc; subst hc; exact HM.out _ (List.getElem_mem _)))
          have hq : (es[k].n == 0) = false ∨ ((es[k].n == 0) = true ∧ (es[k].text == 0) = false) := by
            by_cases h1 : es[k].n = 0
            · exact .inr ⟨beq_iff_eq.2 h1, beq_eq_false_iff_ne.2 (fun h => hz ⟨by rw [← g2]; exact h1, hx0.1 h⟩)⟩
            · exact .inl (beq_eq_false_iff_ne.2 h1)
          rw [← g2] at HNX CRP
          clear hc hbx hins hins2 hnl hS hpe hcd hx0 hz g0 g1 g2 g3 HE HP HM HMEM HIT hlen2 hvv hpc
          have HFR := Lib.hid hr.pcs.fr
          clear hr
          generalize es[k] = c at *
          generalize (ps[k].text.length : Int) = tl at *
          rcases hq with q1 | ⟨q1, q2⟩
          · go_wp2_with fail
            refine (CCH.out _ ((Fr0.refl wr).alloc (.cells #[.int .i64 c.kind, .int .i64 c.at_, .int .i64 c.n, .int .i64 c.to_, .int .i64 c.text] 78 (0, 0)))).mono ?_
            rintro e w3 ⟨rfl, f3⟩
            have F3 := (((Fr0.refl wr).alloc (.cells #[.int .i64 c.kind, .int .i64 c.at_, .int .i64 c.n, .int .i64 c.to_, .int .i64 c.text] 78 (0, 0))).trans f3).alloc (.cells #[.int .i64 c.at_, .int .i64 c.n, .int .i64 c.text] 41 (0, 0))
            have CR3 := Lib.hid (CRP.out _ F3 (w3.heap.size + 1) (by simp))
            clear CRP CCH F3 f3
            go_wp2_with fail
            refine CR3.out.mono ?_
            rintro e w4 ⟨v', ys, rfl, f4, hp4, hpos4⟩
            have HX := Lib.hid (HNX.out _ _ _ hp4 hpos4)
            clear f4 hp4 hpos4 CR3 HNX
            go_wp2_with fail
            go_roundw
            case rel => exact ⟨k + 1, _, ys, by omega, by go_num, rfl, HX.out⟩
            case measure => simp [intOf]; omega
          · go_wp2_with fail
            refine (CCH.out _ ((Fr0.refl wr).alloc (.cells #[.int .i64 c.kind, .int .i64 c.at_, .int .i64 c.n, .int .i64 c.to_, .int .i64 c.text] 78 (0, 0)))).mono ?_
            rintro e w3 ⟨rfl, f3⟩
            have F3 := (((Fr0.refl wr).alloc (.cells #[.int .i64 c.kind, .int .i64 c.at_, .int .i64 c.n, .int .i64 c.to_, .int .i64 c.text] 78 (0, 0))).trans f3).alloc (.cells #[.int .i64 c.at_, .int .i64 c.n, .int .i64 c.text] 41 (0, 0))
            have CR3 := Lib.hid (CRP.out _ F3 (w3.heap.size + 1) (by simp))
            clear CRP CCH F3 f3
            go_wp2_with fail
            refine CR3.out.mono ?_
            rintro e w4 ⟨v', ys, rfl, f4, hp4, hpos4⟩
            have HX := Lib.hid (HNX.out _ _ _ hp4 hpos4)
            clear f4 hp4 hpos4 CR3 HNX
            go_wp2_with fail
            go_roundw
            case rel => exact ⟨k + 1, _, ys, by omega, by go_num, rfl, HX.out⟩
            case measure => simp [intOf]; omega
      · have HBAD := Lib.hid (run_bad hlt2 hr.code (by rw [← hr.now]; exact hcd))
        rw [← hr.now] at HBAD
        have hcv : (ps[k].code now = 4 ∧ ps[k].formed = false) ∨ (ps[k].code now = 1 ∧ ps[k].formed = true ∧ ps[k].fits now = false) := by
          unfold EP.code at hcd ⊢
          cases h1 : ps[k].formed with
          | false => exact .inl ⟨by simp, rfl⟩
          | true =>
            cases h2 : ps[k].fits now with
            | false => exact .inr ⟨by simp, rfl, rfl⟩
            | true => rw [h1, h2] at hcd; simp at hcd
        have CCH : Hid (∀ W, Fr0 wr W → Calls Tryz.prog 69 #[.pointer (some ⟨p, 0, none⟩), .int .i64 now, .agg #[.int .i64 es[k].kind, .int .i64 es[k].at_, .int .i64 es[k].n, .int .i64 es[k].to_, .int .i64 es[k].text]] W fun e w' => e = .returned (.tuple #[.agg #[.int .i64 0, .int .i64 0, .int .i64 0], .int .i64 0, .iface 52 (.int .i64 (ps[k].code now))]) ∧ Fr0 W w') := by
          intro W hW
          rcases hcv with ⟨h1, h2⟩ | ⟨h1, h2, h3⟩
          · rw [h1]
            exact pat_change_form (hS.kept0 hW) HR.out.sok HR.out.dok now _ _ _ _ _ hbx (by rw [hpe]; exact h2)
          · rw [h1]
            exact pat_change_range (hS.kept0 hW) HR.out.sok HR.out.dok now _ _ _ _ _ hbx (by rw [hpe]; exact h2) now0 (by omega) (by rw [hpe]; exact h3)
        have HX : Hid (∀ w', Fr0 wr w' → OfPost B w p mb most L n ps ((2 + 4 * ps.length) * (14 * D + 2)) (.returned (.tuple #[.slice none 0 0, .iface 52 (.int .i64 (ps[k].code now))])) w') := by
          intro w' hf
          refine .inr ⟨by rw [HBAD.out]; exact hcd, by rw [HBAD.out], hr.pcs.fr.trans hf⟩
        clear hc hbx hr hins hins2 hnl hS hpe hcd g0 g1 g2 g3 HE HP HM HMEM HIT HBAD hcv
        generalize es[k] = c at *
        generalize ps[k].code now = cc at *
        go_wp2_with fail
        refine (CCH.out _ ((Fr0.refl wr).alloc (.cells #[.int .i64 c.kind, .int .i64 c.at_, .int .i64 c.n, .int .i64 c.to_, .int .i64 c.text] 78 (0, 0)))).mono ?_
        rintro e w3 ⟨rfl, f3⟩
        have HX3 := Lib.hid (HX.out _ ((((Fr0.refl wr).alloc (.cells #[.int .i64 c.kind, .int .i64 c.at_, .int .i64 c.n, .int .i64 c.to_, .int .i64 c.text] 78 (0, 0))).trans f3).alloc (.cells #[.int .i64 0, .int .i64 0, .int .i64 0] 41 (0, 0))))
        clear f3 HX CCH
        go_wp2_with fail
        go_ret2
        exact HX3.out
    · have hke : k = es.length := by omega
      have htk : ps.take k = ps := List.take_of_length_le (by have := HEL.out; omega)
      have hp := hr.pcs
      have hcode := hr.code
      have hpos := hr.pos
      rw [htk] at hp hcode hpos
      have hml := (runS_mem n ps).2
      have hins := btw_ins_le n (runS (runC 0 n) ps).1 0 []
      rw [List.length_nil] at hins
      have hroom : (xs.length + 1) * (14 * D + 2) ≤ (2 + 4 * ps.length) * (14 * D + 2) := Nat.mul_le_mul_right _ (by have := hp.cnt; have := HEL.out; omega)
      have hres : btwP n (txt L) 0 [] xs = btw n 0 [] (runS (runC 0 n) ps).1 := by
        rcases hpos with h1 | ⟨h1, h2⟩
        · rw [btwP_flat MT L n xs 0 [] (fun x hx => ⟨(hp.ok x hx).1, h1 x hx⟩), hp.flat]
        · rw [h1, h2, btw_whole]; exact btwP_one L n
      have CC := Lib.hid (pat_collect (MT := MT) D ((HR.out.kept0 hp.fr).less hroom) HR.out.base (Kp.of0 hp.fr) u8 hp.own hp.ok (n : Int) (by omega) (by omega) HMD.out hres (by have := HT.out; omega) (by omega) (by have := hp.cnt; have := HEL.out; omega))
      have HX : Hid (∀ e w', ClPost B w p mb most L (btw n 0 [] (runS (runC 0 n) ps).1) ((xs.length + 1) * (14 * D + 2)) e w' → OfPost B w p mb most L n ps ((2 + 4 * ps.length) * (14 * D + 2)) e w') := by
        rintro e w' ⟨L', v, cs, k, h1, h2, h3, h4, h5, h6⟩
        exact .inl ⟨hcode, L', v, cs, k, h1, h2, h3, h4, Nat.le_trans h5 hroom, h6⟩
      clear hr hke htk hp hcode hpos hml hins hroom hres HR HE HP HM HMEM HIT HT HMD HEL
      go_wp2_with fail
      refine CC.out.mono ?_
      rintro e w3 hx
      have hx2 := HX.out _ _ hx
      obtain ⟨L', v', cs', k', rfl, hrest⟩ := hx
      have HX2 := Lib.hid hx2
      clear hrest CC hx2 HX
      go_wp2_with fail
      go_ret2
      exact HX2.out

end Go.Proofs.YtclpndigmidjkaaGreat

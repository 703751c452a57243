/- The walk of builder.patched. -/
import Derived.Test.YtbokcmkbnkncoaaKeep
import Derived.Test.YtbokcmkbnkncoaaPat4
set_option linter.unusedSimpArgs false
set_option linter.unusedVariables false
namespace Go.Proofs.Ytbokcmkbnkncoaa
open Go.RowKit

theorem rowsAt_of_owns {w : World} {a : Option Addr} {n cap : Nat} {rs : List Rw} (h : w.ownsRow 0 51 4 (.slice a n cap) rs.length (rowCells rs)) : n = rs.length ∧ RowsAt w a rs ∧ rs.length ≤ cap := by
  refine ⟨?_, ?_, ?_⟩
  · rcases h.2 with ⟨h1, h2⟩ | ⟨g, cap', cur, h1, _⟩
    · simp at h1; omega
    · simp at h1; exact h1.2.1
  · intro i hi
    obtain ⟨lb, cap', hrv, hc⟩ := owned_row h (List.getElem?_eq_getElem hi)
    simp only [Value.slice.injEq] at hrv
    obtain ⟨rfl, _, _⟩ := hrv
    have d0 := hc 0 _ rfl
    refine ⟨lb, 0, rfl, World.block_lt_of_cell? w _ d0, ?_, ?_, ?_, ?_⟩
    · simpa using d0
    · simpa using hc 1 _ rfl
    · simpa using hc 2 _ rfl
    · simpa using hc 3 _ rfl
  · rcases h.2 with ⟨h1, h2⟩ | ⟨g, cap', cur, h1, _, _, h2, _⟩
    · omega
    · simp at h1; omega

/-- What holds at each round's head. -/
structure PRel (w wr : World) (q : Nat) (L : List Ent) (T F : List Lt) (ver : Int) (cs : List Chg) (R k : Nat) (a : Option Addr) (cap : Nat) (rr : List Rw) (at_ : Int) (Y : List Lt) : Prop where
  rows : RowsAt w a rr
  cap : rr.length ≤ cap
  cv : ∃ p, Cv p rr (T.drop p.toNat) ∧ 0 ≤ p ∧ p ≤ at_
  nb : Nb w wr q Y
  cnt : (rowsOf Y).length + rr.length ≤ R + 2 * k
  formed : ∃ last, formedFrom T.length last (cs.drop k) = true ∧ (at_ = last ∨ (at_ = 0 ∧ last = -1)) ∧ at_ ≤ T.length ∧ 0 ≤ at_
  fin : applyC (lnL L) ver T at_ Y (cs.drop k) = F
  lok : LOk Y

def PatchedPost (w : World) (F : List Lt) (C : Nat) (e : Ending) (w' : World) : Prop :=
  ∃ q, e = .returned (.tuple #[.pointer (some ⟨q, 0, none⟩), .nilIface]) ∧ Nb w w' q F ∧ (rowsOf F).length ≤ C

set_option maxRecDepth 100000 in
set_option maxHeartbeats 2000000 in
theorem bl_patched {w : World} {p mb : Nat} {most : Int} {sv : Value} {L : List Ent} (hS : St w p mb most sv L) (hO : SOk L) {q0 : Nat} {rv : Value} {T F : List Lt} (hB : Bd w q0 rv (rowsOf T) T.length) (hT : LOk T) (hTl : (T.length : Int) ≤ 1152921504606846976)
    (a : Option Addr) (cap : Nat) (cs : List Chg) (hc : ChgsAt w a cs) (hl : cs.length ≤ 1000000) (hk : ∀ c ∈ cs, isKnown L c.text) (hfm : formedFrom T.length (-1) cs = true) (ver : Int) (hF : applyC (lnL L) ver T 0 [] cs = F) (hFl : (F.length : Int) ≤ 1152921504606846976) (hr : (rowsOf T).length + 2 * cs.length ≤ 900000) :
    Calls Try.prog 31 #[.pointer (some ⟨q0, 0, none⟩), .pointer (some ⟨p, 0, none⟩), .slice a cs.length cap, .int .i64 ver] w (PatchedPost w F ((rowsOf T).length + 2 * cs.length + 1)) := by
  obtain ⟨c0, c1, f, l⟩ := cells2 hB.ptr
  obtain ⟨ra, rcap, hrv⟩ := owns_form hB.own
  have how := hB.own
  rw [hrv] at how c0
  obtain ⟨_, hRA, hrc⟩ := rowsAt_of_owns how
  have H0 : Hid (PRel w (w.alloc (.cells #[.slice none 0 0, .int .i64 0] 96 (0, 0))) w.heap.size L T F ver cs (rowsOf T).length 0 ra rcap (rowsOf T) 0 []) :=
    ⟨hRA, hrc, ⟨0, Cv.rows T, by omega, by omega⟩, ⟨(Fr0.refl w).alloc _, Nat.le_refl _, .slice none 0 0, ⟨alloc_at _ _ _ rfl, World.ownsRow_nil _ _ _ _⟩, fun k hk => by simp [Value.ownBlock] at hk⟩, by simp [rowsOf_nil], ⟨-1, hfm, .inr ⟨rfl, rfl⟩, by omega, by omega⟩, hF, fun l hl => by simp at hl⟩
  have HC := Lib.hid hc
  have HS := Lib.hid hS
  have HK := Lib.hid hk
  have HT := Lib.hid hT
  have HO := Lib.hid hO
  obtain ⟨R0, hR0⟩ : ∃ R, (rowsOf T).length = R := ⟨_, rfl⟩
  rw [hR0] at H0 hr c0 ⊢
  have HR0 := Lib.hid hR0
  clear hc hS hk hT hO hB how hRA hrc hrv hfm hF c1 f hR0
  go_enter Try.func31, Try.ntmps31
  go_wp2_with fail
  obtain ⟨q, hq⟩ : ∃ q, w.heap.size = q := ⟨_, rfl⟩
  rw [hq] at H0 ⊢
  clear hq
  go_loopw [11, 12, 25] (fun v t i wr => ∃ (k : Nat) (a : Option Addr) (cap : Nat) (rr : List Rw) (at_ : Int) (Y : List Lt), k ≤ cs.length ∧ i = .int .i64 k ∧ v = .slice a rr.length cap ∧ t = .int .i64 at_ ∧ PRel w wr q L T F ver cs R0 k a cap rr at_ Y) (fun _ _ i _ => cs.length - (intOf i).toNat)
  case atStart => exact ⟨0, ra, rcap, rowsOf T, 0, [], Nat.zero_le _, rfl, by rw [HR0.out], rfl, H0.out⟩
  case round =>
    obtain ⟨k, ra, rcap, rr, at_, Y, hk, rfl, rfl, rfl, hP⟩ := hrel
    obtain ⟨p0, hcv, hp0, hp1⟩ := hP.cv
    obtain ⟨last, hfm, hla, hat1, hat0⟩ := hP.formed
    have hYF : (Y.length : Int) ≤ F.length := by have := applyC_len (lnL L) ver T (cs.drop k) at_ Y; rw [hP.fin] at this; omega
    have hcnt := hP.cnt
    have HP := Lib.hid hP
    have HCV := Lib.hid hcv
    have hfrm := hP.nb.frame
    by_cases hlt : k < cs.length
    · obtain ⟨b, off, hab, lb, d0, d1, d2⟩ := (HC.out.kept0 hfrm) k hlt
      have hkn := HK.out cs[k] (List.getElem_mem _)
      have hfd := formed_drop hlt hfm
      rw [Bool.and_eq_true] at hfd
      obtain ⟨t1, t2, t3, t4, t5⟩ := fitB_true hfd.1
      have hac : at_ ≤ cs[k].at_ := by omega
      have HF2 := Lib.hid hfd.2
      have hfin := hP.fin
      rw [List.drop_eq_getElem_cons hlt] at hfin
      have HFIN := Lib.hid hfin
      subst hab
      have hgrow : (((Y ++ sl T at_ cs[k].at_) ++ run (lnL L cs[k].text).toNat ver ((Y ++ sl T at_ cs[k].at_).length : Int)).length : Int) ≤ F.length := by
        have := applyC_len (lnL L) ver T (cs.drop (k + 1)) (cs[k].at_ + cs[k].n) ((Y ++ sl T at_ cs[k].at_) ++ run (lnL L cs[k].text).toNat ver ((Y ++ sl T at_ cs[k].at_).length : Int))
        rw [← hfin]
        exact Int.ofNat_le.2 this
      clear hP hcv hfm hfd hfin hla
      generalize cs[k] = c at *
      have CW := Lib.hid (fun W (hf : Fr0 wr W) => st_Weight (HS.out.kept0 (hfrm.trans hf)) c.text hkn)
      have CKP := Lib.hid (fun W (hf : Fr0 wr W) => bl_keep (HP.out.nb.kept0 hf) HT.out HP.out.lok ra rcap rr p0 at_ c.at_ HP.out.rows HCV.out hp0 hp1 hac (by omega) (by omega) hTl (by omega) (by omega) HP.out.cap)
      have GL := Lib.hid (HO.out.at _ hkn).1.len0
      go_wp2_with fail
      refine (CW.out _ ((Fr0.refl wr).alloc _)).mono ?_
      rintro e w2 ⟨rfl, hf2⟩
      have hlen2 := hf2.size'
      have hcb : w2.heap[wr.heap.size]? = some (.cells #[.int .i64 c.at_, .int .i64 c.n, .int .i64 c.text] 71 (0, 0)) := hf2.kept (alloc_at _ _ _ rfl)
      obtain ⟨x0, x1, x2, xf, xl⟩ := cells3 hcb
      have HCB := Lib.hid hcb
      clear hcb
      go_wp2_with fail
      refine (CKP.out _ ((((Fr0.refl wr).alloc _).trans hf2).alloc _)).mono ?_
      rintro e w3 ⟨a', cap', rr', p', rfl, hcap', hR', hcv', hp0', hp1', hN', hcnt', hty⟩
      rw [List.length_append, run_len] at hgrow
      have hwb := hty _ _ _ _ (alloc_at w2 _ _ rfl) (by decide) (by decide)
      have hcb3 := hty _ _ _ _ ((alloc_lt w2 _ _ xl).trans HCB.out) (by decide) (by decide)
      clear x0 x1 x2 xf xl
      obtain ⟨x0, x1, x2, xf, xl⟩ := cells3 hcb3
      have y0 : w3.cell? ⟨w2.heap.size, 0, none⟩ = some (.int .i64 (entAt L c.text).wt.len) := by rw [cell_of_block hwb]; rfl
      have HCB3 := Lib.hid hcb3
      obtain ⟨rv3, hB3, hv3⟩ := hN'.bd
      obtain ⟨z0, z1, zf, zl⟩ := cells2 hB3.ptr
      have CAD := Lib.hid (fun W (hf : Fr0 w3 W) => bl_addL (hN'.kept0 hf) (HP.out.lok.append (HT.out.sl at_ c.at_)) (lnL L c.text).toNat (lnL L c.text) ver ((Y ++ sl T at_ c.at_).length : Int) (by have := GL.out; unfold lnL; omega) (by omega) (by omega) (by omega))
      have CADD : Hid (∀ W, Fr0 w3 W → Calls Try.prog 29 #[.pointer (some ⟨q, 0, none⟩), .int .i64 (entAt L c.text).wt.len, .int .i64 ver, .int .i64 ((Y ++ sl T at_ c.at_).length : Int)] W fun e w' => e = .returned (.tuple #[]) ∧ Nb w w' q ((Y ++ sl T at_ c.at_) ++ run (lnL L c.text).toNat ver ((Y ++ sl T at_ c.at_).length : Int)) ∧ Ty W w') := CAD.out
      have HN' := Lib.hid hN'
      have HCV' := Lib.hid hcv'
      have HR' := Lib.hid hR'
      clear hwb hcb3 hB3 hv3 CAD hN' hty z0 hR' hcv' CKP CW HCB
      have hY1 : Hid ((rowsOf ((Y ++ sl T at_ c.at_) ++ run (lnL L c.text).toNat ver ((Y ++ sl T at_ c.at_).length : Int))).length ≤ (rowsOf (Y ++ sl T at_ c.at_)).length + 1) := by
        show _ ≤ _
        rw [rowsOf_run]; exact addRow_len _ _ _ _ _
      have HL1 : Hid (LOk ((Y ++ sl T at_ c.at_) ++ run (lnL L c.text).toNat ver ((Y ++ sl T at_ c.at_).length : Int))) := (HP.out.lok.append (HT.out.sl at_ c.at_)).append (LOk.run (by omega) (by unfold BB; omega))
      have HFIN2 : Hid (applyC (lnL L) ver T (c.at_ + c.n) ((Y ++ sl T at_ c.at_) ++ run (lnL L c.text).toNat ver ((Y ++ sl T at_ c.at_).length : Int)) (cs.drop (k + 1)) = F) := HFIN.out
      generalize (Y ++ sl T at_ c.at_) ++ run (lnL L c.text).toNat ver ((Y ++ sl T at_ c.at_).length : Int) = Y2 at *
      generalize Y ++ sl T at_ c.at_ = Y1 at *
      generalize (entAt L c.text).wt = wt at *
      clear hgrow
      go_wp2_with fail
      refine region_still_tail 8 (by kernel_rfl) (by kernel_rfl) ?_
      simp only [List.take_succ_cons, List.take_zero, List.drop_succ_cons, List.drop_zero]
      iterate 8 still_step
      refine wpStill_nil ?_
      go_wp2_with fail
      refine (CADD.out _ (Fr0.refl w3).drew).mono ?_
      rintro e w4 ⟨rfl, hN4, hty4⟩
      have hcb4 := hty4 _ _ _ _ ((Fr0.refl w3).drew.kept HCB3.out) (by decide) (by decide)
      clear x0 x1 x2 xf xl
      obtain ⟨x0, x1, x2, xf, xl⟩ := cells3 hcb4
      go_wp2_with fail
      go_roundw
      case rel => exact ⟨k + 1, a', cap', rr', c.at_ + c.n, Y2, by omega, by go_num, rfl, rfl, ⟨HR'.out, hcap', ⟨p', HCV'.out, hp0', by omega⟩, hN4, by have := hY1.out; omega, ⟨c.at_ + c.n, HF2.out, .inl rfl, t3, by omega⟩, HFIN2.out, HL1.out⟩⟩
      case measure => simp [intOf]; omega
    · have hdr : cs.drop k = [] := List.drop_of_length_le (by omega)
      have hfin := hP.fin
      rw [hdr] at hfin
      have hF2 : Hid (Y ++ sl T at_ 9223372036854775807 = F) := by show _ = _; rw [sl_end T (by omega)]; exact hfin
      have CKP := Lib.hid (bl_keep hP.nb HT.out hP.lok ra rcap rr p0 at_ 9223372036854775807 hP.rows hcv hp0 hp1 (by omega) (by omega) (by omega) hTl (by omega) (by omega) hP.cap)
      clear hP hcv hfm hla hfin hdr
      go_wp2_with fail
      refine CKP.out.mono ?_
      rintro e w3 ⟨a', cap', rr', p', rfl, hcap', hR', hcv', hp0', hp1', hN', hcnt', hty⟩
      rw [hF2.out] at hN' hcnt'
      have HN' := Lib.hid hN'
      clear hN' hR' hcv' hty
      go_wp2_with fail
      go_ret2
      exact ⟨q, rfl, HN'.out, by omega⟩

end Go.Proofs.Ytbokcmkbnkncoaa

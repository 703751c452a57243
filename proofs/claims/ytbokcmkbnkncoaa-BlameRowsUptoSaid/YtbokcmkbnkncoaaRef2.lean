/- The walk of the reference's Apply. -/
import Derived.Test.YtbokcmkbnkncoaaRef1
set_option linter.unusedSimpArgs false
set_option linter.unusedVariables false
namespace Go.Proofs.Ytbokcmkbnkncoaa
open Go.RowKit

theorem srcAt_new (W : World) (l : Lt) (t : TypeId) (f : Nat × Nat) : SrcAt (W.alloc (.cells #[.int .i64 l.ver, .int .i64 l.org] t f)) (.slice (some ⟨W.heap.size, 0, none⟩) 1 1) [l] :=
  .inr ⟨⟨W.heap.size, 0, none⟩, 1, rfl, World.news_of_block (cs := #[.int .i64 l.ver, .int .i64 l.org]) (t := t) (fr := f) (heap_alloc_new W _)⟩

/-- What holds at each round's head. -/
structure ARel (w wr : World) (T F : List Lt) (ver : Int) (ms : List Chg) (k A : Nat) (v : Value) (Y : List Lt) : Prop where
  lown : LOwn w wr v Y
  frame : Fr0 w wr
  fin : applyC id ver T A Y (ms.drop k) = F
  formed : ∃ last, formedFrom T.length last (ms.drop k) = true ∧ ((A : Int) = last ∨ (A = 0 ∧ last = -1)) ∧ A ≤ T.length

set_option maxRecDepth 100000 in
set_option maxHeartbeats 2000000 in
theorem ref_Apply {w : World} (tv : Value) (T : List Lt) (hT : w.ownsRow 0 90 2 tv T.length (ltCells T)) (pa : Option Addr) (pcap : Nat) (ms : List Chg) (hm : ChgsAt w pa ms) (ver : Int) (hfm : formedFrom T.length (-1) ms = true) (hnn : ∀ c ∈ ms, 0 ≤ c.text) (F : List Lt) (hF : applyC id ver T 0 [] ms = F) (hFl : F.length ≤ 900000) (hTl : T.length ≤ 900000) (hml : ms.length ≤ 1000) :
    Calls Try.prog 14 #[tv, .slice pa ms.length pcap, .int .i64 ver] w fun e w' => ∃ v, e = .returned v ∧ LOwn w w' v F ∧ Fr0 w w' := by
  obtain ⟨ta, tcap, rfl⟩ := owns_form hT
  have H0 : Hid (ARel w w T F ver ms 0 0 (.slice none 0 0) []) := ⟨LOwn.nil _ _, Fr0.refl _, hF, ⟨-1, hfm, .inr ⟨rfl, rfl⟩, Nat.zero_le _⟩⟩
  have HT := Lib.hid hT
  have HM := Lib.hid hm
  have HNN := Lib.hid hnn
  obtain ⟨i1, hi1, ha1, ha2, ha3⟩ := info_parts info_lt
  have hu1 : Try.prog.underlying 27 = some (.slice 90) := Try.underlying27
  clear hT hm hfm hnn hF
  go_enter Try.func14, Try.ntmps14
  go_wp2_with fail
  go_loopg [7, 8, 9] ms.length (fun gk v t i wr => ∃ (k A : Nat) (Y : List Lt), k + gk = ms.length ∧ i = .int .i64 k ∧ t = .int .i64 A ∧ (∃ a cap, v = .slice a Y.length cap) ∧ ARel w wr T F ver ms k A v Y)
  case atStart => exact ⟨0, 0, [], by omega, rfl, rfl, ⟨none, 0, rfl⟩, H0.out⟩
  case round =>
    clear H0
    obtain ⟨k, A, Y, hk, rfl, rfl, ⟨va, vcap, rfl⟩, hP⟩ := hrel
    have hgk : gk + k = ms.length := by omega
    clear hk
    obtain ⟨last, hfm, hla, hAT⟩ := hP.formed
    have hYF : Y.length ≤ F.length := by have := applyC_len id ver T (ms.drop k) A Y; rw [hP.fin] at this; exact this
    have hfr := hP.frame
    have HP := Lib.hid hP
    have hT' := hfr.owns HT.out
    by_cases hlt : k < ms.length
    · obtain ⟨b, off, hab, lb, d0, d1, d2⟩ := (HM.out.kept0 hfr) k hlt
      have hfd := formed_drop hlt hfm
      rw [Bool.and_eq_true] at hfd
      obtain ⟨t1, t2, t3, t4, t5⟩ := fitB_true hfd.1
      have hc0 := HNN.out ms[k] (List.getElem_mem _)
      have HF2 := Lib.hid hfd.2
      have hfin := hP.fin
      rw [List.drop_eq_getElem_cons hlt] at hfin
      have hgrow : ((Y ++ sl T A ms[k].at_) ++ run (id ms[k].text).toNat ver ((Y ++ sl T A ms[k].at_).length : Int)).length ≤ F.length := by
        have := applyC_len id ver T (ms.drop (k + 1)) (ms[k].at_ + ms[k].n) ((Y ++ sl T A ms[k].at_) ++ run (id ms[k].text).toNat ver ((Y ++ sl T A ms[k].at_).length : Int))
        rw [← hfin]
        exact this
      have HFIN : Hid (applyC id ver T (ms[k].at_ + ms[k].n) ((Y ++ sl T A ms[k].at_) ++ run (id ms[k].text).toNat ver ((Y ++ sl T A ms[k].at_).length : Int)) (ms.drop (k + 1)) = F) := hfin
      have HC3 : Hid (∀ W, Fr0 w W → W.cell? ⟨b, off + k * 3, none⟩ = some (.int .i64 ms[k].at_) ∧ W.cell? ⟨b, off + k * 3 + 1, none⟩ = some (.int .i64 ms[k].n) ∧ W.cell? ⟨b, off + k * 3 + 2, none⟩ = some (.int .i64 ms[k].text)) := by
        intro W hf
        obtain ⟨b', off', hab', _, e0, e1, e2⟩ := (HM.out.kept0 hf) k hlt
        rw [hab] at hab'
        simp only [Option.some.injEq, Addr.mk.injEq, and_true] at hab'
        obtain ⟨rfl, rfl⟩ := hab'
        exact ⟨e0, e1, e2⟩
      subst hab
      clear hP hfm hfd hfin
      generalize ms[k] = c at *
      obtain ⟨B, hB⟩ : ∃ B : Nat, c.at_ = B := ⟨c.at_.toNat, by omega⟩
      obtain ⟨N, hN⟩ : ∃ N : Nat, c.n = N := ⟨c.n.toNat, by omega⟩
      obtain ⟨X, hX⟩ : ∃ X : Nat, c.text = X := ⟨c.text.toNat, by omega⟩
      rw [hB] at d0 t1 t3 t4 hgrow HFIN HF2 HC3
      rw [hN] at t2 t3 HFIN HF2 HC3
      rw [hX] at hgrow HFIN hc0 HC3
      clear hB hN hX t5 d1 d2
      have hAB : A ≤ B := by omega
      have hBT : B ≤ T.length := by omega
      have hidx : (id ((X : Nat) : Int)).toNat = X := by simp
      rw [hidx] at hgrow HFIN
      clear hidx
      rw [List.length_append, run_len] at hgrow
      obtain ⟨Y1, hY1⟩ : ∃ Y1, Y ++ sl T A B = Y1 := ⟨_, rfl⟩
      have hsl : (Y ++ sl T A B).length = Y.length + (sl T A B).length := List.length_append
      rw [hY1] at hgrow HFIN hsl
      have HY1 := Lib.hid hY1
      clear hY1
      go_upto_region 6 with fail
      go_cut [7] (fun v wx => (∃ a cap, v = .slice a Y1.length cap) ∧ LOwn w wx v Y1 ∧ Fr0 w wx)
      case first =>
        have hfinish : ∀ v' w1, w1.ownsRow 0 90 2 v' (Y ++ sl T A B).length (ltCells (Y ++ sl T A B)) → wr.grownBy w1 (Value.slice va Y.length vcap).ownBlock → (v'.ownBlock = (Value.slice va Y.length vcap).ownBlock ∨ v'.ownBlock = some wr.heap.size) → (∃ a cap, v' = .slice a Y1.length cap) ∧ LOwn w w1 v' Y1 ∧ Fr0 w w1 := by
          intro v' w1 h1 h2 h3
          have := HP.out.lown.more hfr h1 h2 h3
          rw [HY1.out] at this
          exact ⟨owns_form this.1.own, this.1, this.2⟩
        have HFI := Lib.hid hfinish
        have hYo := HP.out.lown.own
        clear hfinish
        rcases hT'.2 with ⟨h1, h2⟩ | ⟨g, cap', cur, h1, _, hg, hcl, _⟩
        · simp only [Value.slice.injEq] at h1
          obtain ⟨rfl, _, rfl⟩ := h1
          obtain rfl : T = [] := List.eq_nil_of_length_eq_zero h2
          obtain rfl : A = 0 := by simpa using hAT
          obtain rfl : B = 0 := by simpa using hBT
          clear hT' HT
          go_wp2_with (at_builtin; refine wpList_append_lts rfl _ _ rfl (.slice va Y.length vcap) Y rfl hYo _ [] rfl (.inl ⟨rfl, rfl⟩) (by simp; omega) ?_; intro v' w1 q1 q2 q3)
          go_meet
          case rel => exact HFI.out v' w1 q1 q2 q3
        · simp only [Value.slice.injEq] at h1
          obtain ⟨rfl, _, rfl⟩ := h1
          have hsl2 : Y.length + (sl T A B).length ≤ 1000000 := by omega
          by_cases hcA : tcap = A
          · have hAT2 : A = T.length := by omega
            have hBA : B = A := by omega
            have hS : sl T A B = [] := by rw [hBA]; exact sl_self _ _
            rw [hS] at HFI hsl2
            subst hBA hcA
            clear hS hAT2
            go_wp2_with (at_builtin; refine wpList_append_lts rfl _ _ rfl (.slice va Y.length vcap) Y rfl hYo _ [] rfl (srcAt_none rfl) hsl2 ?_; intro v' w1 q1 q2 q3)
            go_meet
            case rel => exact HFI.out v' w1 q1 q2 q3
          · have hsrc := fun c => srcAt_part hT' A B hAB hBT c
            have hBc : B ≤ tcap := by omega
            clear hT' HT
            go_wp2_with (at_builtin; refine wpList_append_lts rfl _ _ rfl (.slice va Y.length vcap) Y rfl hYo _ (sl T A B) rfl (hsrc _) hsl2 ?_; intro v' w1 q1 q2 q3)
            go_meet
            case rel => exact HFI.out v' w1 q1 q2 q3
      case rest =>
        obtain ⟨⟨ya, ycap, rfl⟩, hL1, hf1⟩ := hcut
        clear hT' d0
        go_wp2_with fail
        obtain ⟨ws, rfl⟩ : ∃ ws : World, ws = wc := ⟨_, rfl⟩
        go_loopg [7, 10] X (fun gk v i wx => ∃ (k2 : Nat) (Z : List Lt), k2 + gk = X ∧ i = .int .i64 k2 ∧ Hid (Z = Y1 ++ run k2 ver (Y1.length : Int)) ∧ (∃ a cap, v = .slice a Z.length cap) ∧ LOwn w wx v Z ∧ Fr0 w wx)
        case atStart => exact ⟨0, Y1, by omega, rfl, by show _ = _; rw [run_zero, List.append_nil], ⟨_, _, rfl⟩, hL1, hf1⟩
        case round =>
          clear hL1
          obtain ⟨k2, Z, hk2, rfl, HZ, ⟨za, zcap, rfl⟩, hLZ, hf2⟩ := hrel
          have hgk2 : gk + k2 = X := by omega
          clear hk2
          obtain ⟨x0, x1, x2⟩ := HC3.out _ hf2
          have hZl : Z.length ≤ 899999 ∨ k2 = X := by
            have := HZ.out
            rw [this, List.length_append, run_len]
            omega
          by_cases hlt2 : k2 < X
          · have hZl2 : Z.length + 1 ≤ 1000000 := by omega
            clear hZl
            have hZo := hLZ.own
            have HLZ := Lib.hid hLZ
            clear hLZ
            have HS := Lib.hid (fun t f => srcAt_new wr ⟨ver, (Z.length : Int)⟩ t f)
            go_wp2_with (at_builtin; refine wpList_append_lts rfl _ _ rfl (.slice za Z.length zcap) Z rfl (hZo.alloc _) _ [⟨ver, (Z.length : Int)⟩] rfl (HS.out _ _) hZl2 ?_; intro v' w1 q1 q2 q3)
            obtain ⟨j1, j2⟩ := (HLZ.out.kept0 ((Fr0.refl _).alloc _)).more (hf2.alloc _) q1 q2 q3
            go_roundg (gk - 1)
            case measure => omega
            case rel => exact ⟨k2 + 1, Z ++ [⟨ver, (Z.length : Int)⟩], by omega, by go_num, by show _ = _; rw [run_succ, ← List.append_assoc, ← HZ.out]; congr 3; rw [HZ.out, List.length_append, run_len]; simp, owns_form j1.own, j1, j2⟩
          · have hke : k2 = X := by omega
            subst hke
            have HLZ := Lib.hid hLZ
            have e1 := IntWalk.i64_in ((B : Int) + (N : Int)) (by omega)
            clear hZl hLZ
            go_upto_region 11 with fail
            go_quiet (fail)
            clear e1
            go_wp2_with fail
            go_roundg (ms.length - k - 1)
            case measure => omega
            case rel => exact ⟨k + 1, B + N, Z, by omega, by go_num, by go_num, ⟨_, _, rfl⟩, ⟨HLZ.out.kept0 ((Fr0.refl _).drewN _), hf2.drewN _, by rw [HZ.out]; have := HFIN.out; rw [Int.natCast_add]; exact this, ⟨(B : Int) + (N : Int), HF2.out, .inl (by omega), by omega⟩⟩⟩
    · have hdr : ms.drop k = [] := List.drop_of_length_le (by omega)
      have hfin := hP.fin
      rw [hdr] at hfin
      have HF3 : Hid (Y ++ sl T A T.length = F) := by show _ = _; rw [sl_end T (by omega)]; exact hfin
      have hfl : (Y ++ sl T A T.length).length = Y.length + (sl T A T.length).length := List.length_append
      rw [HF3.out] at hfl
      have hYo := hP.lown.own
      have hfinish : ∀ v' w1, w1.ownsRow 0 90 2 v' (Y ++ sl T A T.length).length (ltCells (Y ++ sl T A T.length)) → wr.grownBy w1 (Value.slice va Y.length vcap).ownBlock → (v'.ownBlock = (Value.slice va Y.length vcap).ownBlock ∨ v'.ownBlock = some wr.heap.size) → LOwn w w1 v' F ∧ Fr0 w w1 := by
        intro v' w1 h1 h2 h3
        have := HP.out.lown.more hfr h1 h2 h3
        rw [HF3.out] at this
        exact this
      have HFI := Lib.hid hfinish
      clear hfinish hfin hdr hP hfm hla
      rcases hT'.2 with ⟨h1, h2⟩ | ⟨g, cap', cur, h1, _, hg, hcl, _⟩
      · simp only [Value.slice.injEq] at h1
        obtain ⟨rfl, _, rfl⟩ := h1
        obtain rfl : T = [] := List.eq_nil_of_length_eq_zero h2
        obtain rfl : A = 0 := by simpa using hAT
        clear hT' HT
        go_wp2_with (at_builtin; refine wpList_append_lts rfl _ _ rfl (.slice va Y.length vcap) Y rfl hYo _ [] rfl (.inl ⟨rfl, rfl⟩) (by simp; omega) ?_; intro v' w1 q1 q2 q3)
        go_ret
        exact ⟨_, rfl, HFI.out v' w1 q1 q2 q3⟩
      · simp only [Value.slice.injEq] at h1
        obtain ⟨rfl, _, rfl⟩ := h1
        have hsl2 : Y.length + (sl T A T.length).length ≤ 1000000 := by omega
        by_cases hcA : tcap = A
        · have hAT2 : A = T.length := by omega
          have hS : sl T A T.length = [] := by rw [← hAT2]; exact sl_self _ _
          rw [hS] at HFI hsl2
          subst hcA
          have hz : T.length - tcap = 0 := by omega
          clear hS hAT2
          go_wp2_with (at_builtin; refine wpList_append_lts rfl _ _ rfl (.slice va Y.length vcap) Y rfl hYo _ [] rfl (srcAt_none rfl) hsl2 ?_; intro v' w1 q1 q2 q3)
          go_ret
          exact ⟨_, rfl, HFI.out v' w1 q1 q2 q3⟩
        · have hsrc := fun c => srcAt_part hT' A T.length hAT (Nat.le_refl _) c
          clear hT' HT
          go_wp2_with (at_builtin; refine wpList_append_lts rfl _ _ rfl (.slice va Y.length vcap) Y rfl hYo _ (sl T A T.length) rfl (hsrc _) hsl2 ?_; intro v' w1 q1 q2 q3)
          go_ret
          exact ⟨_, rfl, HFI.out v' w1 q1 q2 q3⟩

end Go.Proofs.Ytbokcmkbnkncoaa

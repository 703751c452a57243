/- The walk of Parser.pairs. -/
import Derived.Test.YtgldjpldldknoaaGreatDoorRSw6
set_option linter.unusedSimpArgs false
set_option linter.unusedVariables false
namespace Go.Proofs.YtgldjpldldknoaaGreatDoor
open Go.RowKit
theorem SqP.putIs {base : Nat} {w W w1 : World} {rb : Nat} {iv kv iv' : Value} {j j' : Nat} {xs xs' ys : List Int} (h : SqP base w rb iv kv j xs ys) (hf : Fr0 w W) (h1 : PreR 28 .i64 base w1 iv' j' xs') (hg : W.grownBy w1 iv.ownBlock) :
    (w1.setCell ⟨rb, 0, none⟩ iv').heap[rb]? = some (Obj.cells #[iv', kv] 164 (0, 0)) ∧ PreR 28 .i64 base (w1.setCell ⟨rb, 0, none⟩ iv') iv' j' xs' ∧ PreR 43 .u64 base (w1.setCell ⟨rb, 0, none⟩ iv') kv j ys ∧ Fr (sqS rb iv kv) w (w1.setCell ⟨rb, 0, none⟩ iv') ∧ w1.heap[rb]? = some (Obj.cells #[iv, kv] 164 (0, 0)) := by
 obtain ⟨n1, n2, n3⟩ := h.kne
 have hfr : Fr (fun k => iv.ownBlock = some k) w w1 := Fr.grown (Fr0.fr hf) hg (fun k hk _ => hk)
 have hrb : w1.heap[rb]? = some (Obj.cells #[iv, kv] 164 (0, 0)) := hfr.kept h.box n1
 refine ⟨setCell_block hrb 0 iv', h1.keep (fun g cs t f e hc => ?_), h.pk.keep (fun g cs t f e hc => ?_), (hfr.mono (fun k hk _ => .inr (.inl hk))).setCell _ _ (fun _ => .inl rfl), hrb⟩
 · rw [setCell_other]
   · exact hc
   · intro e2
     obtain ⟨_, _, cur, hc2⟩ := h1.blk e
     rw [show g = rb from e2] at hc2
     exact ne_of_types hc2 hrb (by decide) rfl
 · rw [setCell_other]
   · exact hfr.kept hc (fun e2 => n3 g e2 e)
   · intro e2
     exact n2 (by rw [e]; exact congrArg some e2)
theorem SqP.putKs {base : Nat} {W0 W w1 : World} {rb : Nat} {iv' kv kv' : Value} {j j' : Nat} {xs' ys ys' : List Int} (hbox : W0.heap[rb]? = some (Obj.cells #[iv', kv] 164 (0, 0))) (hi : PreR 28 .i64 base W0 iv' j' xs') (hk : PreR 43 .u64 base W0 kv j ys) (hf : Fr0 W0 W)
    (h1 : PreR 43 .u64 base w1 kv' j' ys') (hg : W.grownBy w1 kv.ownBlock) (hl : ys'.length = xs'.length) :
    SqP base (w1.setCell ⟨rb, 1, none⟩ kv') rb iv' kv' j' xs' ys' ∧ Fr (fun k => k = rb ∨ kv.ownBlock = some k) W0 (w1.setCell ⟨rb, 1, none⟩ kv') ∧ w1.heap[rb]? = some (Obj.cells #[iv', kv] 164 (0, 0)) := by
 have n2 : kv.ownBlock ≠ some rb := fun e => by
  obtain ⟨_, _, cur, hc⟩ := hk.blk e
  exact ne_of_types hc hbox (by decide) rfl
 have hfr : Fr (fun k => kv.ownBlock = some k) W0 w1 := Fr.grown (Fr0.fr hf) hg (fun k hk _ => hk)
 have hrb : w1.heap[rb]? = some (Obj.cells #[iv', kv] 164 (0, 0)) := hfr.kept hbox n2
 refine ⟨⟨setCell_block hrb 1 kv', hi.keep (fun g cs t f e hc => ?_), h1.keep (fun g cs t f e hc => ?_), hl⟩, (hfr.mono (fun k hk _ => .inr hk)).setCell _ _ (fun _ => .inl rfl), hrb⟩
 · obtain ⟨_, _, cur, hc2⟩ := hi.blk e
   rw [setCell_other]
   · refine hfr.kept hc (fun e2 => ?_)
     obtain ⟨_, _, cur3, hc3⟩ := hk.blk e2
     exact ne_of_types hc2 hc3 (by decide) rfl
   · intro e2
     rw [show g = rb from e2] at hc2
     exact ne_of_types hc2 hbox (by decide) rfl
 · rw [setCell_other]
   · exact hc
   · intro e2
     obtain ⟨_, _, cur, hc2⟩ := h1.blk e
     rw [show g = rb from e2] at hc2
     exact ne_of_types hc2 hrb (by decide) rfl
structure HalfS (base : Nat) (w wx : World) (rb gi gq m m' ci1 ck1 : Nat) (xs' ys : List Int) : Prop where
 ex : ∃ c, wx.heap[rb]? = some (Obj.cells #[.slice (some ⟨gi, 0, none⟩) m' c, .slice (some ⟨gq, 0, none⟩) m ck1] 164 (0, 0)) ∧ PreR 28 .i64 base wx (.slice (some ⟨gi, 0, none⟩) m' c) m' xs'
 pk : PreR 43 .u64 base wx (.slice (some ⟨gq, 0, none⟩) m ck1) m ys
 fr : Fr (sqS rb (.slice (some ⟨gi, 0, none⟩) m ci1) (.slice (some ⟨gq, 0, none⟩) m ck1)) w wx
theorem prs_next {base B : Nat} {w wr wc W5 wP w8 : World} {pp tp p mb : Nat} {most : Int} {L Lt Ln Mn : List Ent} {ids out xs ys xs' ys' : List Int} {K R rb m m' at7 gi gq ci ck ci1 ck1 c7 d7 : Nat} {idn : Int} {T1 T3 : List KRow} {iv8 kv8 : Value} (HP1 : Pq B wr pp tp p mb most Lt T1)
    (HQ1 : SqP base wr rb (.slice (some ⟨gi, 0, none⟩) m ci1) (.slice (some ⟨gq, 0, none⟩) m ck1) m xs ys) (HKS : Ks (twoS (.slice (some ⟨gi, 0, none⟩) ids.length ci) (.slice (some ⟨gq, 0, none⟩) ids.length ck)) B mb w wr)
    (HKB : wr.heap[K]? = some (Obj.cells #[.slice (some ⟨gi, 0, none⟩) ids.length ci, .slice (some ⟨gq, 0, none⟩) ids.length ck] 164 (0, 0))) (HRS : wr.heap[R]? = some (Obj.cells #[.slice none 0 0, .slice none 0 0] 164 (0, 0)))
    (hfr : Fr (sqS rb (.slice (some ⟨gi, 0, none⟩) m ci1) (.slice (some ⟨gq, 0, none⟩) m ck1)) wr wc) (hsq : SqP base wc rb (.slice (some ⟨gi, 0, none⟩) m' c7) (.slice (some ⟨gq, 0, none⟩) m' d7) m' xs' ys') (HIN : InP L Lt ids out xs' ys' m' at7)
    (F5 : Fr0 wc W5) (hx2 : Kx B mb W5 wP) (hP3 : Pq B w8 pp tp p mb most Ln T3) (hsq8 : SqP base w8 rb iv8 kv8 (m' + 1) (putR xs' m' [idn]) (putR ys' m' [kkey Ln idn])) (hk8 : Ks (sqS rb (.slice (some ⟨gi, 0, none⟩) m' c7) (.slice (some ⟨gq, 0, none⟩) m' d7)) B mb wP w8)
    (e1 : m' < xs'.length → iv8.ownBlock = (Value.slice (some ⟨gi, 0, none⟩) m' c7).ownBlock) (e2 : m' < ys'.length → kv8.ownBlock = (Value.slice (some ⟨gq, 0, none⟩) m' d7).ownBlock)
    (hM : Ln = Lt ++ Mn) (hout : ∀ u ∈ out, isKnown Lt u ∧ u ≠ 0) (hatk : at7 + 2 ≤ ids.length) (hrb : w.heap.size ≤ rb) (hK : K ≠ rb) (hR : R ≠ rb) :
    LvR base B w w8 pp tp p mb most L Ln ids (out ++ [idn]) K R rb (m' + 1) (at7 + 2) gi gq ci ck := by
 have hml := HIN.ml
 have hlx := HIN.lx
 have hly := HIN.ly
 have hi3 := hsq8.pi.at (e1 (by omega))
 have hk3 := hsq8.pk.at (e2 (by omega))
 have hfarR : ∀ {b : Nat} {cs : Array Value} {t : TypeId} {f : Nat × Nat}, wr.heap[b]? = some (Obj.cells cs t f) → b ≠ rb → tyP t = false → t ≠ 28 → t ≠ 43 → w8.heap[b]? = some (Obj.cells cs t f) := by
  intro b cs t f hb h1 h2 h3 h4
  have a1 := hfr.kept hb (HQ1.far hb h1 h3 h4)
  have a2 := hx2.cells _ _ _ _ (F5.kept a1) h2 id
  exact hk8.cells _ _ _ _ a2 h2 (((hsq.kept0 F5).keptX hx2).far a2 h1 h3 h4)
 refine ⟨⟨T3, _, _, iv8, kv8, hP3, hsq8, HIN.step HP1.dok hM hP3.dok hout (by omega) hatk, hi3, hk3⟩, ?_, hfarR HKB hK (by decide) (by decide) (by decide), hfarR HRS hR (by decide) (by decide) (by decide)⟩
 refine Ks.next (((Ks.fr HKS hfr (fun i h1 h2 => ?_)).trans (Ks.of0 F5)).trans (Ks.weak hx2 (fun _ _ e => e.elim))) hk8 (fun i h1 h2 => ?_)
 all_goals
  rcases h2 with e | e | e
  · omega
  · exact .inl e
  · exact .inr e
theorem prs_row {base B mb : Nat} {w1 wr wc W5 wP w8 : World} {rb m m' b7 : Nat} {iv kv iv7 kv7 v : Value} {xs ys xs' ys' : List Int} {vs : List Value} {n : Nat} (HQ1 : SqP base wr rb iv kv m xs ys)
    (hfr : Fr (sqS rb iv kv) wr wc) (hsq : SqP base wc rb iv7 kv7 m' xs' ys') (F5 : Fr0 wc W5) (hx2 : Kx B mb W5 wP) (hk8 : Ks (sqS rb iv7 kv7) B mb wP w8) (h : wr.ownsRow b7 3 1 v n vs) : w8.ownsRow b7 3 1 v n vs := by
 have hne : ∀ {W : World} {z : Nat} {cur : Array Value}, W.heap[z]? = some (Obj.cells cur 3 (0, 0)) → ∀ {i' k' : Value} {j'} {x' y' : List Int}, SqP base W rb i' k' j' x' y' → ¬ sqS rb i' k' z := by
  intro W z cur hc i' k' j' x' y' hq
  exact hq.far hc (fun e => by
   have h1 := hq.box
   rw [← e] at h1
   exact ne_of_types hc h1 (by decide) rfl) (by decide) (by decide)
 have h1 := hfr.owns h (fun z hz => by
  obtain ⟨cur, hc⟩ := owns_block h hz
  exact hne hc HQ1)
 have h2 := Kx.owns hx2 (F5.owns h1) (by decide)
 exact Ks.owns hk8 h2 (by decide) (fun z hz => by
  obtain ⟨cur, hc⟩ := owns_block h2 hz
  exact hne hc ((hsq.kept0 F5).keptX hx2))
set_option maxRecDepth 100000 in
set_option maxHeartbeats 4000000 in
theorem sig_pairs {base B : Nat} {w : World} {pp tp p mb : Nat} {most : Int} {L : List Ent} {T : List KRow} {iv kv : Value} {ids : List Int} (h : Pq B w pp tp p mb most L T)
    (hi : w.ownsRow base 28 1 iv ids.length (ids.map fun x => Value.int .i64 x)) (hk : w.ownsRow base 43 1 kv ids.length ((ids.map (kkey L)).map fun x => Value.int .u64 x)) (hB : B ≤ base) (hbw : base ≤ w.heap.size)
    (h0 : ids ≠ []) (hkn : ∀ u ∈ ids, isKnown L u ∧ u ≠ 0) (ht : (txts L ids).length ≤ 1152921504606846976) (hm : ((L.length + ids.length : Nat) : Int) ≤ most) (hL : L.length + ids.length ≤ 500000) (l : Int) (h2 : 2 ≤ l) (he : l % 2 = 0) (h1 : l ≤ 1099511627776) :
    Calls Tryz.prog 84 #[.pointer (some ⟨pp, 0, none⟩), .agg #[iv, kv], .int .i64 l] w (LevPost base B w pp tp p mb most iv kv (prL ((l / 2 - 1).toNat % 123) L ids).1 (prL ((l / 2 - 1).toNat % 123) L ids).2) := by
 obtain ⟨gi, ci, rfl, hgi, hri, hci1, hci2⟩ := rowC_of_own hi h0
 obtain ⟨gq, ck, hkv, hgk, hrk, hck1, hck2⟩ := rowC_of_own (xs := ids.map (kkey L)) (by rw [List.length_map]; exact hk) (by simpa using h0)
 rw [List.length_map] at hkv hck1
 subst hkv
 have HP := Lib.hid h
 have HI := Lib.hid hi
 have HK := Lib.hid hk
 have hcc1 : ci ≤ 9223372036854775807 := by unfold maxLen at hci2; exact hci2
 have hcc2 : ck ≤ 9223372036854775807 := by unfold maxLen at hck2; exact hck2
 have hpos : 0 < ids.length := List.length_pos_iff.2 h0
 have hz1 : ¬ ci = 0 := by omega
 have hz2 : ¬ ck = 0 := by omega
 have HMX := Lib.hid (And.intro hci2 hck2)
 have HRI := Lib.hid hri
 have HRK := Lib.hid hrk
 have HMKEYS := Lib.hid (fun (q : Int) (hq : q ∈ ids.map (kkey L)) => (by obtain ⟨u, hu, rfl⟩ := List.mem_map.1 hq; exact kkey_rng HP.out.dok (hkn u hu).1 (hkn u hu).2 : 0 ≤ q ∧ q < 2305843009213693951))
 clear h hi hk h0 hci2 hck2 hri hrk
 go_enter Tryz.func84, Tryz.ntmps84
 go_wp2_with fail
 have F0 : Fr0 w ((w.alloc (.cells #[.slice (some ⟨gi, 0, none⟩) ids.length ci, .slice (some ⟨gq, 0, none⟩) ids.length ck] 164 (0, 0))).alloc (.cells #[.slice none 0 0, .slice none 0 0] 164 (0, 0))) := ((Fr0.refl w).alloc _).alloc _
 have b0 := alloc2_0 w (.cells #[.slice (some ⟨gi, 0, none⟩) ids.length ci, .slice (some ⟨gq, 0, none⟩) ids.length ck] 164 (0, 0)) (.cells #[.slice none 0 0, .slice none 0 0] 164 (0, 0))
 have b1 := alloc2_1 w (.cells #[.slice (some ⟨gi, 0, none⟩) ids.length ci, .slice (some ⟨gq, 0, none⟩) ids.length ck] 164 (0, 0)) (.cells #[.slice none 0 0, .slice none 0 0] 164 (0, 0))
 generalize (w.alloc (.cells #[.slice (some ⟨gi, 0, none⟩) ids.length ci, .slice (some ⟨gq, 0, none⟩) ids.length ck] 164 (0, 0))).alloc (.cells #[.slice none 0 0, .slice none 0 0] 164 (0, 0)) = W1 at *
 obtain ⟨K, hK⟩ : ∃ K, w.heap.size = K := ⟨_, rfl⟩
 rw [hK] at b0 b1 ⊢
 have HKZ := Lib.hid hK
 have HB0 := Lib.hid b0
 have HB1 := Lib.hid b1
 have HF0 := Lib.hid F0
 obtain ⟨c0, c1, cf, lc⟩ := cells2 b0
 clear hK b0 b1 F0
 go_cut [8] (fun v wx => ∃ rb, v = .pointer (some ⟨rb, 0, none⟩) ∧ Fr0 W1 wx ∧ W1.heap.size ≤ rb ∧ wx.heap[rb]? = some (.cells #[.slice (some ⟨gi, 0, none⟩) 0 ci, .slice (some ⟨gq, 0, none⟩) 0 ck] 164 (0, 0)))
 case first =>
  have HKEY : Hid (∀ W, Fr0 W1 W → W.cell? ⟨K, 0, none⟩ = some (.slice (some ⟨gi, 0, none⟩) ids.length ci) ∧ W.cell? ⟨K, 1, none⟩ = some (.slice (some ⟨gq, 0, none⟩) ids.length ck)) := fun W hW => by
   obtain ⟨d0, d1, _, _⟩ := cells2 (hW.kept HB0.out)
   exact ⟨d0, d1⟩
  go_region_held3 (fun w' => w'.cell? ⟨K, 0, none⟩ = some (.slice (some ⟨gi, 0, none⟩) ids.length ci) ∧ w'.cell? ⟨K, 1, none⟩ = some (.slice (some ⟨gq, 0, none⟩) ids.length ck))
   (exact HKEY.out _ (by repeat (first | exact Fr0.refl _ | refine Fr0.alloc ?_ _ | refine Fr0.drew ?_))) (fail)
  all_goals
   go_wp2_with fail
   go_meet
   exact ⟨_, rfl, ((Fr0.refl W1).alloc _).drew, Nat.le_refl _, alloc_at _ _ _ rfl⟩
 case rest =>
  obtain ⟨rb, rfl, hfw, hrb, hbox⟩ := hcut
  have F2 : Fr0 w wc := HF0.out.trans hfw
  have hs0 := Fr.size HF0.out
  have hl1 := lt_of_block HB1.out
  have hl0 := lt_of_block HB0.out
  have CR := Lib.hid (lev_Pairs (cap := ck) (HRK.out.kept0 F2) (by rw [List.length_map]; omega) HMKEYS.out l h2 he h1)
  rw [List.length_map] at CR
  have hkw : K ≤ rb ∧ K + 1 < rb := ⟨by omega, by omega⟩
  have HBX := Lib.hid hbox
  have HF2 := Lib.hid F2
  have HKB := Lib.hid (hfw.kept HB0.out)
  have HRS := Lib.hid (hfw.kept HB1.out)
  clear c0 c1 cf lc HB0 HB1 HF0 hl1 hl0
  obtain ⟨c0, c1, cf, lc⟩ := cells2 HKB.out
  clear hfw hbox F2
  generalize hcc : (l / 2 - 1).toNat % 123 = c at *
  clear hcc h2 he h1
  go_wp2_with fail
  refine CR.out.mono ?_
  rintro e w2 ⟨iv2, rfl, hgo⟩
  have hf2 := hgo.fr
  have HG0 := Lib.hid hgo
  have HPR0 := Lib.hid (PrI.start HP.out.sok HP.out.dok HP.out.uq c ids)
  have H0 : Hid (LvR base B w w2 pp tp p mb most L L ids [] K (K + 1) rb 0 0 gi gq ci ck) := by
   have F3 := HF2.out.trans hf2
   exact ⟨⟨T, ids, ids.map (kkey L), _, _, HP.out.kept0 F3, ⟨hf2.kept HBX.out, ⟨_, ci, rfl, Nat.zero_le _, F3.owns HI.out⟩, ⟨_, ck, rfl, Nat.zero_le _, by rw [List.length_map]; exact F3.owns HK.out⟩, by simp⟩, InP.start L ids, ⟨_, rfl⟩, ⟨_, rfl⟩⟩, Ks.of0 F3, hf2.kept HKB.out, hf2.kept HRS.out⟩
  obtain ⟨ga, gc, rfl⟩ := hgo.form
  have hisl := grd_len c _ (ids.map (kkey L)) 0 (Nat.le_refl _)
  rw [List.length_map] at hisl
  generalize hG : grd c 0 (ids.map (kkey L)) = is at *
  have hw2 : w.heap.size ≤ w2.heap.size := Nat.le_trans (Fr.size HF2.out) (Fr.size hf2)
  clear hgo hf2 CR HBX HKB HRS c0 c1 cf lc hG
  obtain ⟨wcR, hwcR⟩ : ∃ z, wc.heap.size = z := ⟨_, rfl⟩
  have HG1 : Hid (w2.ownsRow wcR 3 1 (.slice ga (toI is).length gc) (toI is).length ((toI is).map fun x => Value.int .i64 x)) := by rw [← hwcR]; exact HG0.out.row
  clear hwcR HG0
  rw [toI_len] at HG1 ⊢
  go_wp2_with fail
  go_loopg [9, 27] is.length (fun gk av i wr => ∃ (t at_ : Nat) (Lt : List Ent) (out : List Int), i = .int .i64 t ∧ av = .int .i64 at_ ∧ t + gk = is.length ∧ (at_ = 0 ∨ out.length < at_) ∧ PrI c L Lt ids out at_ (is.drop t) ∧ LvR base B w wr pp tp p mb most L Lt ids out K (K + 1) rb out.length at_ gi gq ci ck ∧ wr.ownsRow wcR 3 1 (.slice ga is.length gc) is.length ((toI is).map fun x => Value.int .i64 x))
  case atStart => exact ⟨0, 0, L, [], rfl, rfl, by omega, .inl rfl, HPR0.out, H0.out, HG1.out⟩
  case round =>
   clear H0 HG1 HPR0
   obtain ⟨t, at_, Lt, out, rfl, rfl, htg, hoa, hpr, hr, hgo⟩ := hrel
   obtain ⟨⟨T1, xs, ys, iv1, kv1, hP1, hq1, hin, ⟨ci1, rfl⟩, ⟨ck1, rfl⟩⟩, hks, hkb, hrs⟩ := hr
   have q3 : (0 : Int) ≤ (t : Int) := by omega
   by_cases hlt : t < is.length
   · have hit : t < (toI is).length := by rw [toI_len]; exact hlt
     have hne : toI is ≠ [] := fun e => by rw [e] at hit; simp at hit
     obtain ⟨gb, gc', hgv, _, hrc, _, _⟩ := rowC_of_own (xs := toI is) (by rw [toI_len]; exact hgo) hne
     rw [toI_len] at hgv
     simp only [Value.slice.injEq] at hgv
     obtain ⟨rfl, _, rfl⟩ := hgv
     have x0 := hrc.2 t hit
     have lgb := hrc.1
     have eti : (toI is)[t] = (is[t] : Int) := by simp [toI]
     rw [eti] at x0
     have hdr := List.drop_eq_getElem_cons hlt
     rw [hdr] at hpr
     obtain ⟨hi, hai, kx, ky, kx0, ky0, htx, hpn⟩ := hpr.next HP.out.dok hkn ht
     generalize is[t] = i at *
     have hlx := hin.lx
     have hly := hin.ly
     have hml := hin.ml
     have hnl : ((ids.drop at_).take (i - at_)).length = i - at_ := by rw [List.length_take, List.length_drop]; omega
     have HS1 := Lib.hid (src_in (r := i - at_) hq1.pi hin.rest)
     obtain ⟨d0, d1, df, ld⟩ := cells2 hq1.box
     obtain ⟨e0, e1, ef, le⟩ := cells2 hkb
     have q4 : (t : Int) < (is.length : Int) := by omega
     have q5 : (0 : Int) ≤ (at_ : Int) := by omega
     have q6 : (at_ : Int) ≤ (i : Int) := by omega
     have q7 : (i : Int) ≤ (ci : Int) := by omega
     have q8 : (i : Int) ≤ (ck : Int) := by omega
     have q9 : ¬ ci = at_ := by omega
     have q10 : ¬ ck = at_ := by omega
     have hgk0 : gk ≠ 0 := by omega
     have HP1 := Lib.hid hP1
     have HQ1 := Lib.hid hq1
     have HIN := Lib.hid hin
     have HKS := Lib.hid hks
     have HKB := Lib.hid hkb
     have HRS := Lib.hid hrs
     have HGO := Lib.hid hgo
     have HPN := Lib.hid hpn
     have HPG := Lib.hid hpr.gu
     have HPRK := Lib.hid hpr.kn
     have hrbK : K ≠ rb := by omega
     have hbw3 : base ≤ wr.drew.heap.size := Nat.le_trans hbw hks.size
     have hji : out.length + (i - at_) ≤ xs.length ∨ out.length = xs.length := .inl (by omega)
     have hli : xs.length + (i - at_) ≤ 2000000 := by omega
     clear hP1 hq1 hin hks hkb hrs hgo hpn hrc hpr hdr eti hit hne
     go_upto_region 6 with fail
     go_cut [] (fun wx => HalfS base wr wx rb gi gq out.length (out.length + (i - at_)) ci1 ck1 (putR xs out.length ((ids.drop at_).take (i - at_))) ys)
     case first =>
      go_region_law ((refine step_append_pre rt_id (by rfl) _ _ (by rfl) .i64 base (.slice (some ⟨gi, 0, none⟩) out.length ci1) out.length xs (by rfl) (HQ1.out.pi.kept0 (Fr0.refl wr).drew) ⟨gi, at_, none⟩ (ci - at_) ((ids.drop at_).take (i - at_)) (i - at_) hnl (by rfl) (HS1.out) hji hli hbw3 ?_; intro v1 w1 hP hg hat; have hv1 := hP.at (hat.resolve_right (fun e => by omega)); obtain ⟨vc, rfl⟩ := hv1; obtain ⟨hb3, hpi3, hpk3, hfr3, hrb3⟩ := HQ1.out.putIs (Fr0.refl wr).drew hP hg; obtain ⟨d0, d1, df, ld⟩ := cells2 hrb3; have HH := Lib.hid (HalfS.mk ⟨vc, hb3, hpi3⟩ hpk3 hfr3); clear hb3 hpi3 hpk3 hfr3 hrb3 hP hg hat))
      all_goals
       go_wp2_with fail
       go_meet
       exact HH.out
     case rest =>
      obtain ⟨⟨cv, hb3, hpi3⟩, hpk3, hfr3⟩ := hcut
      have hkbf := HQ1.out.far HKB.out (by omega) (by decide) (by decide)
      have hkb3 := hfr3.kept HKB.out hkbf
      have hs3 := hfr3.size
      obtain ⟨d0, d1, df, ld⟩ := cells2 hb3
      obtain ⟨e0, e1, ef, le⟩ := cells2 hkb3
      have HHB := Lib.hid hb3
      have HHI := Lib.hid hpi3
      have HHK := Lib.hid hpk3
      have HHF := Lib.hid hfr3
      have HS2 := Lib.hid (src_in (r := i - at_) hpk3 HIN.out.restk)
      obtain ⟨Nt, hNt⟩ := HPG.out.gr.ext
      have hDt := HPG.out.gr.dok
      have hnk : (((ids.map (kkey L)).drop at_).take (i - at_)) = ((ids.drop at_).take (i - at_)).map (kkey Lt) := by
       rw [hNt] at hDt ⊢
       exact map_more HP.out.dok hDt ids hkn at_ (i - at_)
      rw [hnk] at HS2
      have hnkl : (((ids.drop at_).take (i - at_)).map (kkey Lt)).length = i - at_ := by rw [List.length_map, hnl]
      have hjk : out.length + (i - at_) ≤ ys.length ∨ out.length = ys.length := .inl (by omega)
      have hlk : ys.length + (i - at_) ≤ 2000000 := by omega
      have hbw4 : base ≤ wc.drew.heap.size := Nat.le_trans hbw3 hs3
      have hmany := Lib.hid (HIN.out.many (i - at_) (by omega))
      have HLL : Hid ((putR ys out.length (((ids.drop at_).take (i - at_)).map (kkey Lt))).length = (putR xs out.length ((ids.drop at_).take (i - at_))).length) := by show _ = _; rw [hmany.out.ly, hmany.out.lx]
      obtain ⟨W4, hW4⟩ : ∃ W, W = wc := ⟨_, rfl⟩
      subst hW4
      clear hb3 hpi3 hpk3 hfr3 hkb3 hkbf hnk hDt hNt
      go_upto_region 7 with fail
      go_cut [] (fun wx => ∃ c d, SqP base wx rb (.slice (some ⟨gi, 0, none⟩) (out.length + (i - at_)) c) (.slice (some ⟨gq, 0, none⟩) (out.length + (i - at_)) d) (out.length + (i - at_)) (putR xs out.length ((ids.drop at_).take (i - at_))) (putR ys out.length (((ids.drop at_).take (i - at_)).map (kkey Lt))) ∧ Fr (sqS rb (.slice (some ⟨gi, 0, none⟩) out.length ci1) (.slice (some ⟨gq, 0, none⟩) out.length ck1)) wr wx)
      case first =>
       go_region_law ((refine step_append_pre rt_u64 (by rfl) _ _ (by rfl) .u64 base (.slice (some ⟨gq, 0, none⟩) out.length ck1) out.length ys (by rfl) (HHK.out.kept0 (Fr0.refl W4).drew) ⟨gq, at_, none⟩ (ck - at_) (((ids.drop at_).take (i - at_)).map (kkey Lt)) (i - at_) hnkl (by rfl) (HS2.out) hjk hlk hbw4 ?_; intro v1 w1 hP hg hat; have hv1 := hP.at (hat.resolve_right (fun e => by omega)); obtain ⟨vc, rfl⟩ := hv1; obtain ⟨hsq3, hfr3, hrb3⟩ := SqP.putKs HHB.out HHI.out HHK.out (Fr0.refl W4).drew hP hg HLL.out; obtain ⟨d0, d1, df, ld⟩ := cells2 hrb3; have HH := Lib.hid hsq3; have HHF3 := Lib.hid (HHF.out.trans hfr3 (fun k hk _ => hk.elim .inl (fun e => .inr (.inr e)))); clear hsq3 hfr3 hrb3 hP hg hat))
       all_goals
        go_wp2_with fail
        go_meet
        exact ⟨_, _, HH.out, HHF3.out⟩
      case rest =>
       obtain ⟨c7, d7, hsq7, hfr7⟩ := hcut
       obtain ⟨W7, hW7⟩ : ∃ W, W = wc := ⟨_, rfl⟩
       subst hW7
       have hP7 := HP1.out.keptO (HQ1.out.ko hB (by omega) hfr7)
       have hkb7 := hfr7.kept HKB.out (HQ1.out.far HKB.out hrbK (by decide) (by decide))
       have hin7 := hmany.out
       have hlx7 := hin7.lx
       have hly7 := hin7.ly
       obtain ⟨x0, lgi⟩ := hsq7.pi.cell i (by omega)
       obtain ⟨x1, _⟩ := hsq7.pi.cell (i + 1) (by omega)
       have hrst := hin7.rest
       rw [show at_ + (i - at_) = i by omega] at hrst hin7
       have ex0 := getElem_of_drop hrst (by omega) (by omega)
       have hrst1 := congrArg (List.drop 1) hrst
       rw [List.drop_drop, List.drop_drop] at hrst1
       have ex1 := getElem_of_drop hrst1 (by omega) (by omega)
       rw [ex0] at x0
       rw [ex1] at x1
       obtain ⟨c0, c1, lp⟩ := hP7.front
       obtain ⟨e0, e1, ef, le⟩ := cells2 hkb7
       have hll := HPG.out.gr.len
       have HP7 := Lib.hid hP7
       have HSQ7 := Lib.hid hsq7
       have HFR7 := Lib.hid hfr7
       have HIN7 := Lib.hid hin7
       have HKB7 := Lib.hid hkb7
       obtain ⟨Mn, hMn⟩ := addL_ext Lt (pairEnt Lt ids[i] ids[i + 1])
       have HMN := Lib.hid hMn
       have HKN := Lib.hid HPN.out.kn
       have HGI : Hid (gi < W7.heap.size) := lgi
       clear hMn
       generalize ids[i] = x at *
       generalize ids[i + 1] = y at *
       generalize hLn : addL Lt (pairEnt Lt x y) = Ln at *
       generalize hid : addI Lt (pairEnt Lt x y) = idn at *
       have CP := Lib.hid (fun W (hW : Fr0 W7 W) => pq_Pair (HP7.out.kept0 hW) x y kx ky kx0 ky0 htx (by omega) (by omega))
       rw [hLn, hid] at CP
       clear hrst hrst1 ex0 ex1 hsq7 hfr7 hP7 hin7 hkb7 hmany HHB HHI HHK HHF HS1 HS2 HLL hji hjk hli hlk hbw3 hbw4 hnl hnkl hs3 d0 d1 df ld hlx hly hLn hid kx ky kx0 ky0 htx
       have hkn' : (isKnown Ln idn ∧ idn ≠ 0) := HKN.out idn (List.mem_append_right _ (List.mem_singleton.2 rfl))
       have CA := Lib.hid (fun W W5 (hW5 : Fr0 W7 W5) (hx : Kx B mb W5 W) (hP : Pq B W pp tp p mb most Ln T1) => sig_add hP ((HSQ7.out.kept0 hW5).keptX hx) hB (Nat.le_trans hbw (Nat.le_trans (Nat.le_trans HKS.out.size HFR7.out.size) (Nat.le_trans (Fr.size hW5) hx.size))) (by omega) (by omega) idn hkn'.1 hkn'.2)
       have hout2 : ∀ u ∈ out ++ (ids.drop at_).take (i - at_), isKnown Lt u ∧ u ≠ 0 := by
        intro u hu
        rcases List.mem_append.1 hu with hu | hu
        · exact HPRK.out u hu
        · obtain ⟨N, hN⟩ := HPG.out.gr.ext
          have := hkn u (List.mem_of_mem_drop (List.mem_of_mem_take hu))
          exact ⟨by rw [hN]; exact known_more this.1 N, this.2⟩
       have HNEXT := Lib.hid (fun (W5 wP w8 : World) T3 iv8 kv8 => @prs_next base B w wr W7 W5 wP w8 pp tp p mb most L Lt Ln Mn ids _ xs ys _ _ K (K + 1) rb out.length _ i gi gq ci ck ci1 ck1 c7 d7 idn T1 T3 iv8 kv8 HP1.out HQ1.out HKS.out HKB.out HRS.out HFR7.out HSQ7.out HIN7.out)
       have HROW := Lib.hid (fun (W5 wP w8 : World) (F5 : Fr0 W7 W5) (hx2 : Kx B mb W5 wP) hk8 => prs_row (w1 := w) (w8 := w8) HQ1.out HFR7.out HSQ7.out F5 hx2 hk8 HGO.out)
       have HKEY : Hid (∀ W, Kx B mb W7 W → W.cell? ⟨pp, 0, none⟩ = some (.pointer (some ⟨p, 0, none⟩)) ∧ W.cell? ⟨K, 0, none⟩ = some (.slice (some ⟨gi, 0, none⟩) ids.length ci) ∧ W.cell? ⟨gi, i, none⟩ = some (.int .i64 x) ∧ W.cell? ⟨gi, i + 1, none⟩ = some (.int .i64 y)) := by
        intro W h2
        obtain ⟨_, _, cur, hc⟩ := HSQ7.out.pi.blk (g := gi) rfl
        exact ⟨(cells2q (h2.cells _ _ _ _ HP7.out.par (by decide) id)).1, (cells2 (h2.cells _ _ _ _ HKB7.out (by decide) id)).1, (h2.cell hc (by decide) id i).trans (((Ks.refl (fun _ => False) B mb W7).cell hc (by decide) id i).symm.trans x0), (h2.cell hc (by decide) id (i + 1)).trans (((Ks.refl (fun _ => False) B mb W7).cell hc (by decide) id (i + 1)).symm.trans x1)⟩
       have hou := HIN7.out.lo
       generalize out ++ (ids.drop at_).take (i - at_) = out7 at *
       generalize putR xs out.length ((ids.drop at_).take (i - at_)) = xs7 at *
       generalize putR ys out.length (((ids.drop at_).take (i - at_)).map (kkey Lt)) = ys7 at *
       generalize hm7 : out.length + (i - at_) = m7 at *
       clear hkn HMKEYS HKS HKB HRS HGO HP1 HQ1 HIN HFR7 HSQ7 HP7 HIN7 HKB7 HKN HPRK HI HK ht hm HPG hai hll
       have q11 : (i : Int) < (ids.length : Int) := by omega
       have q12 : (i : Int) + 1 < (ids.length : Int) := by omega
       have q13 : (0 : Int) ≤ (i : Int) + 1 := by omega
       have q14 : (0 : Int) ≤ (i : Int) := by omega
       have q15 : IntKind.i64.wrap ((i : Int) + 1) = (i : Int) + 1 := wrapI (by omega) (by omega)
       go_wp2_with fail
       go_region_held3 (fun w' => w'.cell? ⟨pp, 0, none⟩ = some (.pointer (some ⟨p, 0, none⟩)) ∧ w'.cell? ⟨K, 0, none⟩ = some (.slice (some ⟨gi, 0, none⟩) ids.length ci) ∧ w'.cell? ⟨gi, i, none⟩ = some (.int .i64 x) ∧ w'.cell? ⟨gi, i + 1, none⟩ = some (.int .i64 y))
        (exact HKEY.out _ (by first | exact Ks.refl _ _ _ _ | exact (Ks.refl _ _ _ _).drew | exact (Ks.refl _ _ _ _).drew.trans (by assumption)))
        ((first | (go_at_call 41; (with_reducible refine Calls.mono (CP.out _ (by first | exact Fr0.refl _ | exact (Fr0.refl _).drew)) ?_); rintro e w6 ⟨rfl, hP6, hx6⟩)))
       all_goals
        have CA6 := Lib.hid (CA.out w6 _ (Fr0.refl W7).drew hx6 hP6)
        have HX6 := Lib.hid hx6
        clear hx6 hP6 CA CP HKEY x0 x1 e0 e1 ef le c0 c1 lp
        go_wp2_with fail
        refine CA6.out.mono ?_
        rintro e w8 ⟨T3, iv8, kv8, rfl, hP8, hsq8, hk8, _, _, e1, e2⟩
        have HL8 := Lib.hid (HNEXT.out _ _ _ _ _ _ (Fr0.refl W7).drew HX6.out hP8 hsq8 hk8 e1 e2)
        have HR8 := Lib.hid (HROW.out _ _ _ (Fr0.refl W7).drew HX6.out hk8)
        clear hP8 hsq8 hk8 e1 e2 HNEXT HROW CA6
        go_wp2_with fail
        go_roundg (gk - 1)
        case measure => omega
        case rel =>
         have hol : (out7 ++ [idn]).length = m7 + 1 := by rw [List.length_append, List.length_singleton, hou]
         refine ⟨t + 1, i + 2, Ln, out7 ++ [idn], by go_num, by go_num, by omega, .inr (by omega), HPN.out, ?_, HR8.out⟩
         rw [hol]
         exact HL8.out HMN.out hout2 (by omega) (by have := HKZ.out; omega) (by omega) (by omega)
   · obtain rfl : t = is.length := by omega
     rw [List.drop_length] at hpr
     have HDONE := Lib.hid hpr.done
     have HPG := Lib.hid hpr.gu
     have q4 : decide ((is.length : Int) < (is.length : Int)) = false := decide_eq_false (by omega)
     have hlx := hin.lx
     have hly := hin.ly
     have hml := hin.ml
     have hal := hin.al
     have hnl : ((ids.drop at_).take (ids.length - at_)).length = ids.length - at_ := by rw [List.length_take, List.length_drop]; omega
     have HS1 := Lib.hid (src_in (r := ids.length - at_) hq1.pi hin.rest)
     obtain ⟨d0, d1, df, ld⟩ := cells2 hq1.box
     obtain ⟨e0, e1, ef, le⟩ := cells2 hkb
     have q5 : (0 : Int) ≤ (at_ : Int) := by omega
     have q6 : (at_ : Int) ≤ (ids.length : Int) := by omega
     have HP1 := Lib.hid hP1
     have HQ1 := Lib.hid hq1
     have HIN := Lib.hid hin
     have HKS := Lib.hid hks
     have HKB := Lib.hid hkb
     have HRS := Lib.hid hrs
     have hrbK : K ≠ rb := by omega
     have hox : out.length < xs.length := by omega
     have hbw3 : base ≤ wr.drew.heap.size := Nat.le_trans hbw hks.size
     have hji : out.length + (ids.length - at_) ≤ xs.length ∨ out.length = xs.length := .inl (by omega)
     have hli : xs.length + (ids.length - at_) ≤ 2000000 := by omega
     clear hP1 hq1 hin hks hkb hrs hgo hpr
     go_upto_region 16 with fail
     go_cut [] (fun wx => HalfS base wr wx rb gi gq out.length (out.length + (ids.length - at_)) ci1 ck1 (putR xs out.length ((ids.drop at_).take (ids.length - at_))) ys)
     case first =>
      by_cases q9 : ci = at_
      · have hn0 : ids.length - at_ = 0 := by omega
        have HN0 := Lib.hid hn0
        have hj0 : out.length + 0 ≤ xs.length ∨ out.length = xs.length := .inl (by omega)
        have hl0 : xs.length + 0 ≤ 2000000 := by omega
        have HS0 : Hid (∀ (ad : Addr) (i : Nat) (u : Value), ((([] : List Int)).map fun x => Value.int .i64 x)[i]? = some u → wr.drew.cell? (ad.add i) = some u) := by
         intro ad i u hu
         simp at hu
        clear hn0
        subst q9
        go_region_law ((refine step_append_pre rt_id (by rfl) _ _ (by rfl) .i64 base (.slice (some ⟨gi, 0, none⟩) out.length ci1) out.length xs (by rfl) (HQ1.out.pi.kept0 (Fr0.refl wr).drew) ⟨gi, 0, none⟩ 0 [] 0 rfl (by rfl) (HS0.out _) hj0 hl0 hbw3 ?_; intro v1 w1 hP hg hat; have hv1 := hP.at (hat.resolve_right (fun e => by omega)); obtain ⟨vc, rfl⟩ := hv1; obtain ⟨hb3, hpi3, hpk3, hfr3, hrb3⟩ := HQ1.out.putIs (Fr0.refl wr).drew hP hg; obtain ⟨d0, d1, df, ld⟩ := cells2 hrb3; have HH := Lib.hid (HalfS.mk ⟨vc, hb3, hpi3⟩ hpk3 hfr3); clear hb3 hpi3 hpk3 hfr3 hrb3 hP hg hat))
        all_goals
         go_wp2_with fail
         go_meet
         rw [HN0.out]
         exact HH.out
      · have q10 : ¬ ids.length < at_ := by omega
        go_region_law ((refine step_append_pre rt_id (by rfl) _ _ (by rfl) .i64 base (.slice (some ⟨gi, 0, none⟩) out.length ci1) out.length xs (by rfl) (HQ1.out.pi.kept0 (Fr0.refl wr).drew) ⟨gi, at_, none⟩ (ci - at_) ((ids.drop at_).take (ids.length - at_)) (ids.length - at_) hnl (by rfl) (HS1.out) hji hli hbw3 ?_; intro v1 w1 hP hg hat; have hv1 := hP.at (hat.resolve_right (fun e => by omega)); obtain ⟨vc, rfl⟩ := hv1; obtain ⟨hb3, hpi3, hpk3, hfr3, hrb3⟩ := HQ1.out.putIs (Fr0.refl wr).drew hP hg; obtain ⟨d0, d1, df, ld⟩ := cells2 hrb3; have HH := Lib.hid (HalfS.mk ⟨vc, hb3, hpi3⟩ hpk3 hfr3); clear hb3 hpi3 hpk3 hfr3 hrb3 hP hg hat))
        all_goals
         go_wp2_with fail
         go_meet
         exact HH.out
     case rest =>
      obtain ⟨⟨cv, hb3, hpi3⟩, hpk3, hfr3⟩ := hcut
      have hkbf := HQ1.out.far HKB.out (by omega) (by decide) (by decide)
      have hkb3 := hfr3.kept HKB.out hkbf
      have hs3 := hfr3.size
      obtain ⟨d0, d1, df, ld⟩ := cells2 hb3
      obtain ⟨e0, e1, ef, le⟩ := cells2 hkb3
      have HHB := Lib.hid hb3
      have HHI := Lib.hid hpi3
      have HHK := Lib.hid hpk3
      have HHF := Lib.hid hfr3
      have HS2 := Lib.hid (src_in (r := ids.length - at_) hpk3 HIN.out.restk)
      obtain ⟨Nt, hNt⟩ := HPG.out.gr.ext
      have hDt := HPG.out.gr.dok
      have hnk : (((ids.map (kkey L)).drop at_).take (ids.length - at_)) = ((ids.drop at_).take (ids.length - at_)).map (kkey Lt) := by
       rw [hNt] at hDt ⊢
       exact map_more HP.out.dok hDt ids hkn at_ (ids.length - at_)
      rw [hnk] at HS2
      have hnkl : (((ids.drop at_).take (ids.length - at_)).map (kkey Lt)).length = ids.length - at_ := by rw [List.length_map, hnl]
      have hoy : out.length < ys.length := by omega
      have hjk : out.length + (ids.length - at_) ≤ ys.length ∨ out.length = ys.length := .inl (by omega)
      have hlk : ys.length + (ids.length - at_) ≤ 2000000 := by omega
      have hbw4 : base ≤ wc.drew.heap.size := Nat.le_trans hbw3 hs3
      have hmany := Lib.hid (HIN.out.many (ids.length - at_) (by omega))
      have HLL : Hid ((putR ys out.length (((ids.drop at_).take (ids.length - at_)).map (kkey Lt))).length = (putR xs out.length ((ids.drop at_).take (ids.length - at_))).length) := by show _ = _; rw [hmany.out.ly, hmany.out.lx]
      obtain ⟨W4, hW4⟩ : ∃ W, W = wc := ⟨_, rfl⟩
      subst hW4
      clear hb3 hpi3 hpk3 hfr3 hkb3 hkbf hnk hDt hNt
      go_upto_region 17 with fail
      go_cut [] (fun wx => ∃ c d, SqP base wx rb (.slice (some ⟨gi, 0, none⟩) (out.length + (ids.length - at_)) c) (.slice (some ⟨gq, 0, none⟩) (out.length + (ids.length - at_)) d) (out.length + (ids.length - at_)) (putR xs out.length ((ids.drop at_).take (ids.length - at_))) (putR ys out.length (((ids.drop at_).take (ids.length - at_)).map (kkey Lt))) ∧ Fr (sqS rb (.slice (some ⟨gi, 0, none⟩) out.length ci1) (.slice (some ⟨gq, 0, none⟩) out.length ck1)) wr wx)
      case first =>
       by_cases q9 : ck = at_
       · have hn0 : ids.length - at_ = 0 := by omega
         have HN0 := Lib.hid hn0
         have hj0 : out.length + 0 ≤ ys.length ∨ out.length = ys.length := .inl (by omega)
         have hl0 : ys.length + 0 ≤ 2000000 := by omega
         have HS0 : Hid (∀ (ad : Addr) (i : Nat) (u : Value), ((([] : List Int)).map fun x => Value.int .u64 x)[i]? = some u → W4.drew.cell? (ad.add i) = some u) := by
          intro ad i u hu
          simp at hu
         rw [hn0] at HLL HHI HHB
         clear hn0 HS2 hnkl
         subst q9
         go_region_law ((refine step_append_pre rt_u64 (by rfl) _ _ (by rfl) .u64 base (.slice (some ⟨gq, 0, none⟩) out.length ck1) out.length ys (by rfl) (HHK.out.kept0 (Fr0.refl W4).drew) ⟨gq, 0, none⟩ 0 [] 0 rfl (by rfl) (HS0.out _) hj0 hl0 hbw4 ?_; intro v1 w1 hP hg hat; have hv1 := hP.at (hat.resolve_right (fun e => by omega)); obtain ⟨vc, rfl⟩ := hv1; obtain ⟨hsq3, hfr3, hrb3⟩ := SqP.putKs HHB.out HHI.out HHK.out (Fr0.refl W4).drew hP hg HLL.out; obtain ⟨d0, d1, df, ld⟩ := cells2 hrb3; have HH := Lib.hid hsq3; have HHF3 := Lib.hid (HHF.out.trans hfr3 (fun k hk _ => hk.elim .inl (fun e => .inr (.inr e)))); clear hsq3 hfr3 hrb3 hP hg hat))
         all_goals
          go_wp2_with fail
          go_meet
          rw [HN0.out]
          exact ⟨_, _, HH.out, HHF3.out⟩
       · have q10 : ¬ ids.length < at_ := by omega
         go_region_law ((refine step_append_pre rt_u64 (by rfl) _ _ (by rfl) .u64 base (.slice (some ⟨gq, 0, none⟩) out.length ck1) out.length ys (by rfl) (HHK.out.kept0 (Fr0.refl W4).drew) ⟨gq, at_, none⟩ (ck - at_) (((ids.drop at_).take (ids.length - at_)).map (kkey Lt)) (ids.length - at_) hnkl (by rfl) (HS2.out) hjk hlk hbw4 ?_; intro v1 w1 hP hg hat; have hv1 := hP.at (hat.resolve_right (fun e => by omega)); obtain ⟨vc, rfl⟩ := hv1; obtain ⟨hsq3, hfr3, hrb3⟩ := SqP.putKs HHB.out HHI.out HHK.out (Fr0.refl W4).drew hP hg HLL.out; obtain ⟨d0, d1, df, ld⟩ := cells2 hrb3; have HH := Lib.hid hsq3; have HHF3 := Lib.hid (HHF.out.trans hfr3 (fun k hk _ => hk.elim .inl (fun e => .inr (.inr e)))); clear hsq3 hfr3 hrb3 hP hg hat))
         all_goals
          go_wp2_with fail
          go_meet
          exact ⟨_, _, HH.out, HHF3.out⟩
      case rest =>
       obtain ⟨c7, d7, hsq7, hfr7⟩ := hcut
       have hks7 := Ks.fr HKS.out hfr7 (fun i h1 h2 => by
        rcases h2 with e | e | e
        · omega
        · exact .inl e
        · exact .inr e)
       have hrs7 := hfr7.kept HRS.out (HQ1.out.far HRS.out (by omega) (by decide) (by decide))
       have HFIN := Lib.hid (lev_fin (HP1.out.keptO (HQ1.out.ko hB (by omega) hfr7)) hsq7 hmany.out hks7 hrs7 hB hbw (by have := HKZ.out; omega) (by omega))
       obtain ⟨d0, d1, df, ld⟩ := cells2 hsq7.box
       obtain ⟨e0, e1, ef, le⟩ := cells2 hrs7
       obtain ⟨o0, o1, _, _⟩ := cells2 (put2 hrs7 (.slice (some ⟨gi, 0, none⟩) (out.length + (ids.length - at_)) c7) (.slice (some ⟨gq, 0, none⟩) (out.length + (ids.length - at_)) d7))
       clear hsq7 hfr7 hks7 hrs7 hmany HHB HHI HHK HHF HS1 HS2 HLL HP1 HQ1 HIN HKS HKB HRS
       go_wp2_with fail
       exact bodyPost_ret (v := .tuple #[.agg #[.slice (some ⟨gi, 0, none⟩) (out.length + (ids.length - at_)) c7, .slice (some ⟨gq, 0, none⟩) (out.length + (ids.length - at_)) d7], .nilIface]) (by simp [results, Tryz.results84, go_sem, o0, o1]) rfl (by rw [HDONE.out]; exact HFIN.out)
end Go.Proofs.YtgldjpldldknoaaGreatDoor

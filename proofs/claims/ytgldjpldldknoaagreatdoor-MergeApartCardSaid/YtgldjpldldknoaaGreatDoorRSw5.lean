/- The walk of Parser.runs. -/
import Derived.Test.YtgldjpldldknoaaGreatDoorRSw4
set_option linter.unusedSimpArgs false
set_option linter.unusedVariables false
namespace Go.Proofs.YtgldjpldldknoaaGreatDoor
open Go.RowKit
def twoS (iv kv : Value) (k : Nat) : Prop := iv.ownBlock = some k ∨ kv.ownBlock = some k
def LevPost (base B : Nat) (w : World) (pp tp p mb : Nat) (most : Int) (iv kv : Value) (L' : List Ent) (out : List Int) (e : Ending) (w' : World) : Prop :=
 ∃ T' iv' kv', e = .returned (.tuple #[.agg #[iv', kv'], .nilIface]) ∧ Pq B w' pp tp p mb most L' T' ∧ Ks (twoS iv kv) B mb w w' ∧
  w'.ownsRow base 28 1 iv' out.length (out.map fun x => Value.int .i64 x) ∧ w'.ownsRow base 43 1 kv' out.length ((out.map (kkey L')).map fun x => Value.int .u64 x) ∧
  (∀ k, iv'.ownBlock = some k → iv.ownBlock = some k ∨ w.heap.size ≤ k) ∧ (∀ k, kv'.ownBlock = some k → kv.ownBlock = some k ∨ w.heap.size ≤ k)
structure LvR (base B : Nat) (w wr : World) (pp tp p mb : Nat) (most : Int) (L Lm : List Ent) (ids out : List Int) (K R rb m at_ gi gq : Nat) (ci ck : Nat) : Prop where
 ex : ∃ T xs ys iv kv, Pq B wr pp tp p mb most Lm T ∧ SqP base wr rb iv kv m xs ys ∧ InP L Lm ids out xs ys m at_ ∧ (∃ c, iv = .slice (some ⟨gi, 0, none⟩) m c) ∧ ∃ c, kv = .slice (some ⟨gq, 0, none⟩) m c
 ks : Ks (twoS (.slice (some ⟨gi, 0, none⟩) ids.length ci) (.slice (some ⟨gq, 0, none⟩) ids.length ck)) B mb w wr
 kb : wr.heap[K]? = some (Obj.cells #[.slice (some ⟨gi, 0, none⟩) ids.length ci, .slice (some ⟨gq, 0, none⟩) ids.length ck] 164 (0, 0))
 rs : wr.heap[R]? = some (Obj.cells #[.slice none 0 0, .slice none 0 0] 164 (0, 0))
theorem SqP.far {base : Nat} {w : World} {rb : Nat} {iv kv : Value} {j : Nat} {xs ys : List Int} (h : SqP base w rb iv kv j xs ys) {b : Nat} {cs : Array Value} {t : TypeId} {f : Nat × Nat} (hb : w.heap[b]? = some (Obj.cells cs t f)) (h1 : b ≠ rb) (h2 : t ≠ 28) (h3 : t ≠ 43) : ¬ sqS rb iv kv b := by
 rintro (e | e | e)
 · exact h1 e
 · obtain ⟨_, _, cur, hc⟩ := h.pi.blk e
   rw [hb] at hc
   cases hc
   exact h2 rfl
 · obtain ⟨_, _, cur, hc⟩ := h.pk.blk e
   rw [hb] at hc
   cases hc
   exact h3 rfl
theorem lv_next {base B : Nat} {w wr W5 wc w4 : World} {pp tp p mb : Nat} {most : Int} {L Lm Ln Mn : List Ent} {ids out xs ys : List Int} {K R rb m at_ gi gq ci ck ci1 ck1 k : Nat} {idn : Int} {T1 T2 : List KRow} {iv3 kv3 : Value} (HP1 : Pq B wr pp tp p mb most Lm T1)
    (HQ1 : SqP base wr rb (.slice (some ⟨gi, 0, none⟩) m ci1) (.slice (some ⟨gq, 0, none⟩) m ck1) m xs ys) (HIN : InP L Lm ids out xs ys m at_) (HKS : Ks (twoS (.slice (some ⟨gi, 0, none⟩) ids.length ci) (.slice (some ⟨gq, 0, none⟩) ids.length ck)) B mb w wr)
    (HKB : wr.heap[K]? = some (Obj.cells #[.slice (some ⟨gi, 0, none⟩) ids.length ci, .slice (some ⟨gq, 0, none⟩) ids.length ck] 164 (0, 0))) (HRS : wr.heap[R]? = some (Obj.cells #[.slice none 0 0, .slice none 0 0] 164 (0, 0)))
    (F5 : Fr0 wr W5) (hP2 : Pq B wc pp tp p mb most Ln T2) (hx2 : Kx B mb W5 wc) (hM : Ln = Lm ++ Mn) (hout : ∀ u ∈ out, isKnown Lm u ∧ u ≠ 0) (hk : 1 ≤ k) (hatk : at_ + k ≤ ids.length) (hB : B ≤ base) (hbw : base ≤ w.heap.size) (hrb : w.heap.size ≤ rb) (hK : K ≠ rb) (hR : R ≠ rb)
    (hsq : SqP base w4 rb iv3 kv3 (m + 1) (putR xs m [idn]) (putR ys m [kkey Ln idn])) (hi3 : ∃ c, iv3 = .slice (some ⟨gi, 0, none⟩) (m + 1) c) (hk3 : ∃ c, kv3 = .slice (some ⟨gq, 0, none⟩) (m + 1) c) (hfr : Fr (sqS rb (.slice (some ⟨gi, 0, none⟩) m ci1) (.slice (some ⟨gq, 0, none⟩) m ck1)) wc w4) :
    LvR base B w w4 pp tp p mb most L Ln ids (out ++ [idn]) K R rb (m + 1) (at_ + k) gi gq ci ck := by
 have hq2 := (HQ1.kept0 F5).keptX hx2
 have hkb := hx2.cells _ _ _ _ (F5.kept HKB) (by decide) id
 have hrs := hx2.cells _ _ _ _ (F5.kept HRS) (by decide) id
 refine ⟨⟨T2, _, _, iv3, kv3, hP2.keptO (hq2.ko hB (by omega) hfr), hsq, HIN.step HP1.dok hM hP2.dok hout hk hatk, hi3, hk3⟩, ?_, hfr.kept hkb (hq2.far hkb hK (by decide) (by decide)), hfr.kept hrs (hq2.far hrs hR (by decide) (by decide))⟩
 refine Ks.fr ((HKS.trans (Ks.of0 F5)).trans (Ks.weak hx2 (fun _ _ e => e.elim))) hfr (fun i h1 h2 => ?_)
 rcases h2 with e | e | e
 · omega
 · exact .inl e
 · exact .inr e
theorem lev_fin {base B : Nat} {w wr : World} {pp tp p mb : Nat} {most : Int} {L Lm : List Ent} {ids out xs ys : List Int} {R rb m at_ gi gq ci ck ci1 ck1 : Nat} {T1 : List KRow} {u0 u1 : Value} (HP1 : Pq B wr pp tp p mb most Lm T1)
    (HQ1 : SqP base wr rb (.slice (some ⟨gi, 0, none⟩) m ci1) (.slice (some ⟨gq, 0, none⟩) m ck1) m xs ys) (HIN : InP L Lm ids out xs ys m at_) (HKS : Ks (twoS (.slice (some ⟨gi, 0, none⟩) ids.length ci) (.slice (some ⟨gq, 0, none⟩) ids.length ck)) B mb w wr)
    (HRS : wr.heap[R]? = some (Obj.cells #[u0, u1] 164 (0, 0))) (hB : B ≤ base) (hbw : base ≤ w.heap.size) (hR : w.heap.size ≤ R) (hRrb : R ≠ rb) :
    LevPost base B w pp tp p mb most (.slice (some ⟨gi, 0, none⟩) ids.length ci) (.slice (some ⟨gq, 0, none⟩) ids.length ck) Lm out (.returned (.tuple #[.agg #[.slice (some ⟨gi, 0, none⟩) m ci1, .slice (some ⟨gq, 0, none⟩) m ck1], .nilIface])) ((wr.setCell ⟨R, 0, none⟩ (.slice (some ⟨gi, 0, none⟩) m ci1)).setCell ⟨R, 1, none⟩ (.slice (some ⟨gq, 0, none⟩) m ck1)) := by
 have hf : Fr (fun k => k = R) wr ((wr.setCell ⟨R, 0, none⟩ (.slice (some ⟨gi, 0, none⟩) m ci1)).setCell ⟨R, 1, none⟩ (.slice (some ⟨gq, 0, none⟩) m ck1)) := fr_set1 (fr_set1 (Fr.refl _ wr) 0 _) 1 _
 have hi := HQ1.pi.own
 have hk := HQ1.pk.own
 rw [HIN.fo] at hi
 rw [HIN.fk] at hk
 have hfar := HQ1.far HRS hRrb (by decide) (by decide)
 refine ⟨T1, _, _, rfl, HP1.keptO ((Ko.refl B wr).fr hf (fun i hi => by subst hi; exact ⟨by omega, _, _, _, HRS, by decide⟩)), Ks.fr HKS hf (fun i h1 h2 => by omega), ?_, ?_, fun k hk => .inl hk, fun k hk => .inl hk⟩
 · rw [HIN.lo]
   exact hf.owns hi (fun k hk e => hfar (.inr (.inl (by rw [← e]; exact hk))))
 · rw [HIN.lo]
   exact hf.owns hk (fun k hk e => hfar (.inr (.inr (by rw [← e]; exact hk))))
theorem groups_at {w : World} {base : Nat} {v : Value} {G : List (Int × Nat)} (h : w.ownsRow base 189 2 v G.length (G.flatMap gvR)) (i : Nat) (hi : i < G.length) :
    ∃ b cap, v = .slice (some ⟨b, 0, none⟩) G.length cap ∧ b < w.heap.size ∧ w.cell? ⟨b, i * 2, none⟩ = some (.int .i64 G[i].1) ∧ w.cell? ⟨b, i * 2 + 1, none⟩ = some (.int .i64 (G[i].2 : Nat)) := by
 obtain ⟨ra, cap, hv, hg⟩ := rg_of_own (B := base) (vals := gvR) (fun x _ => rfl) h (by decide) (by decide)
 rcases h.2 with ⟨_, e⟩ | ⟨b, cap', cur, e, _⟩
 · omega
 · obtain ⟨b', off, h1, h2, _, h4⟩ := hg i hi
   rw [e] at hv
   simp only [Value.slice.injEq] at hv
   obtain ⟨hv1, _, rfl⟩ := hv
   rw [← hv1] at h1
   simp only [Option.some.injEq, Addr.mk.injEq, and_true] at h1
   obtain ⟨rfl, rfl⟩ := h1
   have c0 := h4 0 _ rfl
   have c1 := h4 1 _ rfl
   rw [Nat.zero_add] at c0 c1
   exact ⟨b, _, e, h2, c0, c1⟩
theorem PreR.cell {T : TypeId} {k : IntKind} {base : Nat} {w : World} {g j cap : Nat} {xs : List Int} (h : PreR T k base w (.slice (some ⟨g, 0, none⟩) j cap) j xs) (i : Nat) (hi : i < xs.length) : w.cell? ⟨g, i, none⟩ = some (.int k xs[i]) ∧ g < w.heap.size := by
 obtain ⟨a, c, e, _, h2⟩ := h
 simp only [Value.slice.injEq] at e
 obtain ⟨rfl, _, rfl⟩ := e
 have hc := h2.cells (g := g) rfl i (.int k xs[i]) (by simp [hi])
 exact ⟨by simpa only [Addr.add_lit, Nat.zero_add] using hc, (h2.lt g rfl).2⟩
set_option maxRecDepth 100000 in
set_option maxHeartbeats 4000000 in
theorem sig_runs {base B : Nat} {w : World} {pp tp p mb : Nat} {most : Int} {L : List Ent} {T : List KRow} {iv kv : Value} {ids : List Int} (h : Pq B w pp tp p mb most L T)
    (hi : w.ownsRow base 28 1 iv ids.length (ids.map fun x => Value.int .i64 x)) (hk : w.ownsRow base 43 1 kv ids.length ((ids.map (kkey L)).map fun x => Value.int .u64 x)) (hB : B ≤ base) (hbw : base ≤ w.heap.size)
    (h0 : ids ≠ []) (hkn : ∀ u ∈ ids, isKnown L u ∧ u ≠ 0) (ht : (txts L ids).length ≤ 1152921504606846976) (hm : ((L.length + ids.length : Nat) : Int) ≤ most) (hL : L.length + ids.length ≤ 500000) :
    Calls Tryz.prog 83 #[.pointer (some ⟨pp, 0, none⟩), .agg #[iv, kv]] w (LevPost base B w pp tp p mb most iv kv (rnL L (rle ids)).1 (rnL L (rle ids)).2) := by
 obtain ⟨gi, ci, rfl, hgi, hri, hci1, hci2⟩ := rowC_of_own hi h0
 obtain ⟨gq, ck, hkv, hgk, hrk, hck1, hck2⟩ := rowC_of_own (xs := ids.map (kkey L)) (by rw [List.length_map]; exact hk) (by simpa using h0)
 rw [List.length_map] at hkv hck1
 subst hkv
 have HP := Lib.hid h
 have HI := Lib.hid hi
 have HK := Lib.hid hk
 have hcc1 : ci ≤ 9223372036854775807 := by unfold maxLen at hci2; exact hci2
 have hcc2 : ck ≤ 9223372036854775807 := by unfold maxLen at hck2; exact hck2
 have hpos : 0 < ids.length := List.length_pos_iff.2 h0
 have hz1 : ¬ ci = 0 := by omega
 have hz2 : ¬ ck = 0 := by omega
 have HMX := Lib.hid (And.intro hci2 hck2)
 have HRI := Lib.hid hri
 have HRK := Lib.hid hrk
 clear h hi hk h0 hci2 hck2 hri hrk
 go_enter Tryz.func83, Tryz.ntmps83
 go_wp2_with fail
 have F0 : Fr0 w ((w.alloc (.cells #[.slice (some ⟨gi, 0, none⟩) ids.length ci, .slice (some ⟨gq, 0, none⟩) ids.length ck] 164 (0, 0))).alloc (.cells #[.slice none 0 0, .slice none 0 0] 164 (0, 0))) := ((Fr0.refl w).alloc _).alloc _
 have b0 := alloc2_0 w (.cells #[.slice (some ⟨gi, 0, none⟩) ids.length ci, .slice (some ⟨gq, 0, none⟩) ids.length ck] 164 (0, 0)) (.cells #[.slice none 0 0, .slice none 0 0] 164 (0, 0))
 have b1 := alloc2_1 w (.cells #[.slice (some ⟨gi, 0, none⟩) ids.length ci, .slice (some ⟨gq, 0, none⟩) ids.length ck] 164 (0, 0)) (.cells #[.slice none 0 0, .slice none 0 0] 164 (0, 0))
 generalize (w.alloc (.cells #[.slice (some ⟨gi, 0, none⟩) ids.length ci, .slice (some ⟨gq, 0, none⟩) ids.length ck] 164 (0, 0))).alloc (.cells #[.slice none 0 0, .slice none 0 0] 164 (0, 0)) = W1 at *
 obtain ⟨K, hK⟩ : ∃ K, w.heap.size = K := ⟨_, rfl⟩
 rw [hK] at b0 b1 ⊢
 have HKZ := Lib.hid hK
 have HB0 := Lib.hid b0
 have HB1 := Lib.hid b1
 have HF0 := Lib.hid F0
 obtain ⟨c0, c1, cf, lc⟩ := cells2 b0
 clear hK b0 b1 F0
 go_cut [6] (fun v wx => ∃ rb, v = .pointer (some ⟨rb, 0, none⟩) ∧ Fr0 W1 wx ∧ W1.heap.size ≤ rb ∧ wx.heap[rb]? = some (.cells #[.slice (some ⟨gi, 0, none⟩) 0 ci, .slice (some ⟨gq, 0, none⟩) 0 ck] 164 (0, 0)))
 case first =>
  have HKEY : Hid (∀ W, Fr0 W1 W → W.cell? ⟨K, 0, none⟩ = some (.slice (some ⟨gi, 0, none⟩) ids.length ci) ∧ W.cell? ⟨K, 1, none⟩ = some (.slice (some ⟨gq, 0, none⟩) ids.length ck)) := fun W hW => by
   obtain ⟨d0, d1, _, _⟩ := cells2 (hW.kept HB0.out)
   exact ⟨d0, d1⟩
  go_region_held3 (fun w' => w'.cell? ⟨K, 0, none⟩ = some (.slice (some ⟨gi, 0, none⟩) ids.length ci) ∧ w'.cell? ⟨K, 1, none⟩ = some (.slice (some ⟨gq, 0, none⟩) ids.length ck))
   (exact HKEY.out _ (by repeat (first | exact Fr0.refl _ | refine Fr0.alloc ?_ _ | refine Fr0.drew ?_))) (fail)
  all_goals
   go_wp2_with fail
   go_meet
   exact ⟨_, rfl, ((Fr0.refl W1).alloc _).drew, Nat.le_refl _, alloc_at _ _ _ rfl⟩
 case rest =>
  obtain ⟨rb, rfl, hfw, hrb, hbox⟩ := hcut
  have F2 : Fr0 w wc := HF0.out.trans hfw
  have hs0 := Fr.size HF0.out
  have hl1 := lt_of_block HB1.out
  have hl0 := lt_of_block HB0.out
  have CR := Lib.hid (lev_Runs (cap := ci) (HRI.out.kept0 F2) (by omega))
  have hkw : K ≤ rb ∧ K + 1 < rb := ⟨by omega, by omega⟩
  have HBX := Lib.hid hbox
  have HF2 := Lib.hid F2
  have HKB := Lib.hid (hfw.kept HB0.out)
  have HRS := Lib.hid (hfw.kept HB1.out)
  clear c0 c1 cf lc HB0 HB1 HF0 hl1 hl0
  obtain ⟨c0, c1, cf, lc⟩ := cells2 HKB.out
  clear hfw hbox F2
  go_wp2_with fail
  refine CR.out.mono ?_
  rintro e w2 ⟨gv, rfl, hgo, hf2⟩
  have HG0 := Lib.hid hgo
  have H0 : Hid (LvR base B w w2 pp tp p mb most L L ids [] K (K + 1) rb 0 0 gi gq ci ck) := by
   have F3 := HF2.out.trans hf2
   exact ⟨⟨T, ids, ids.map (kkey L), _, _, HP.out.kept0 F3, ⟨hf2.kept HBX.out, ⟨_, ci, rfl, Nat.zero_le _, F3.owns HI.out⟩, ⟨_, ck, rfl, Nat.zero_le _, by rw [List.length_map]; exact F3.owns HK.out⟩, by simp⟩, InP.start L ids, ⟨_, rfl⟩, ⟨_, rfl⟩⟩, Ks.of0 F3, hf2.kept HKB.out, hf2.kept HRS.out⟩
  obtain ⟨ga, gc, rfl⟩ := owns_form hgo
  have hGok := (rle_ok ids).1
  have hGu := (rle_ok ids).2.1
  have hneed := runs_need hkn ht
  have hGl := rle_short ids
  generalize hG : rle ids = G at *
  have HNEED := Lib.hid hneed
  have HPOS := Lib.hid (fun q hq => runs_pos hGok q hq)
  have HGU := Lib.hid hGu
  obtain ⟨wcR, hwcR⟩ : ∃ z, wc.heap.size = z := ⟨_, rfl⟩
  rw [hwcR] at HG0
  have hw2 : w.heap.size ≤ w2.heap.size := Nat.le_trans (Fr.size HF2.out) (Fr.size hf2)
  clear hwcR hgo hf2 CR HBX HKB HRS c0 c1 cf lc hneed hGok hGu hG
  go_wp2_with fail
  go_loopg [7, 24] G.length (fun gk av i wr => ∃ m at_ : Nat, i = .int .i64 m ∧ av = .int .i64 at_ ∧ m + gk = G.length ∧ at_ = (unr (G.take m)).length ∧ LvR base B w wr pp tp p mb most L (rnL L (G.take m)).1 ids (rnL L (G.take m)).2 K (K + 1) rb m at_ gi gq ci ck ∧ wr.ownsRow wcR 189 2 (.slice ga G.length gc) G.length (G.flatMap gvR))
  case atStart => exact ⟨0, 0, rfl, rfl, by omega, rfl, H0.out, HG0.out⟩
  case round =>
   clear H0 HG0
   obtain ⟨m, at_, rfl, rfl, hmg, hat, hr, hgo⟩ := hrel
   obtain ⟨⟨T1, xs, ys, iv1, kv1, hP1, hq1, hin, ⟨ci1, rfl⟩, ⟨ck1, rfl⟩⟩, hks, hkb, hrs⟩ := hr
   have q3 : (0 : Int) ≤ (m : Int) := by omega
   by_cases hlt : m < G.length
   · obtain ⟨gb, gc', hgv, lgb, x0, x1⟩ := groups_at hgo m hlt
     simp only [Value.slice.injEq] at hgv
     obtain ⟨rfl, _, rfl⟩ := hgv
     have hsp := unr_split hlt
     rw [HGU.out] at hsp
     have hpos := HPOS.out _ (List.getElem_mem hlt)
     have hnd := HNEED.out _ (List.getElem_mem hlt)
     have htk := List.take_succ_eq_append_getElem hlt
     have hut := unr_take hlt
     have hatk : at_ + G[m].2 ≤ ids.length := by
      have := congrArg List.length hsp
      simp only [List.length_append, List.length_replicate] at this
      omega
     have hpa : at_ < ids.length := by omega
     have hids : ids[at_] = G[m].1 := by
      have e1 : ids[at_]? = some G[m].1 := by
       rw [hsp, List.getElem?_append_right (by omega), List.getElem?_append_left (by simp; omega), hat, Nat.sub_self]
       rw [List.getElem?_replicate, if_pos (by omega)]
      rw [List.getElem?_eq_getElem hpa] at e1
      exact Option.some.inj e1
     have hly := hin.ly
     have hys : ys[at_]'(by omega) = kkey L G[m].1 := by
      rw [getElem_of_drop hin.restk (by omega) (by simp; omega), List.getElem_map, hids]
     obtain ⟨hkc, lgk⟩ := hq1.pk.cell at_ (by omega)
     rw [hys] at hkc
     obtain ⟨w1, w2', w3⟩ := rnL_weak (G.take m) L HP.out.sok HP.out.dok HP.out.uq (fun q hq => HNEED.out q (List.mem_of_mem_take hq))
     obtain ⟨M1, hM1⟩ := w1.gr.ext
     have hkm : isKnown (rnL L (G.take m)).1 G[m].1 := by rw [hM1]; exact known_more hnd.1 M1
     have hkk : kkey (rnL L (G.take m)).1 G[m].1 = kkey L G[m].1 := by
      have := w1.gr.dok
      rw [hM1] at this ⊢
      exact (kl_more HP.out.dok M1 this _ _ (Nat.le_refl _) hnd.1 hnd.2.1).1
     have htx : (txt (rnL L (G.take m)).1 G[m].1).length * G[m].2 ≤ 1152921504606846976 := by rw [hM1, txt_append HP.out.dok M1 hnd.1]; exact hnd.2.2
     have hll := w1.gr.len
     rw [List.length_take] at hll
     rw [← hkk] at hkc
     have hR1 := Lib.hid (rn1_ok w1.gr.sok w1.gr.dok w1.uq hkm hnd.2.1 htx)
     have hne0 := hnd.2.1
     have HW3 := Lib.hid w3
     have HSNOC := Lib.hid (show rnL L (G.take (m + 1)) = ((rn1 (rnL L (G.take m)).1 G[m]).1, (rnL L (G.take m)).2 ++ [(rn1 (rnL L (G.take m)).1 G[m]).2]) by rw [htk, rnL_snoc])
     have HUT := Lib.hid (show (unr (G.take (m + 1))).length = at_ + G[m].2 by rw [hut, List.length_append, List.length_replicate, hat])
     obtain ⟨Mn, hMn⟩ := hR1.out.1.gr.ext
     have HMN := Lib.hid hMn
     clear hMn htk hut hsp hids hys w1 w2' w3 hM1 hnd hkk hat
     generalize hLm : (rnL L (G.take m)).1 = Lm at *
     generalize hout : (rnL L (G.take m)).2 = out at *
     generalize G[m] = q at *
     obtain ⟨x, k⟩ := q
     dsimp only at hpos hatk hkc hkm htx hne0 x0 x1 HUT
     obtain ⟨c0, c1, lp⟩ := hP1.front
     obtain ⟨d0, d1, df, ld⟩ := cells2 hkb
     obtain ⟨hr1, hr2, hr3⟩ := hR1.out
     obtain ⟨Ln, hLn⟩ : ∃ l, (rn1 Lm (x, k)).1 = l := ⟨_, rfl⟩
     obtain ⟨idn, hidn⟩ : ∃ i, (rn1 Lm (x, k)).2 = i := ⟨_, rfl⟩
     rw [hLn, hidn] at hR1 HSNOC hr2
     rw [hidn] at hr3
     rw [hLn] at HMN hr1
     have hk3 : k ≤ 1000000 := by omega
     have hgk0 : gk ≠ 0 := by omega
     have q4 : (m : Int) < (G.length : Int) := by omega
     have q5 : (0 : Int) ≤ (at_ : Int) := by omega
     have q6 : (at_ : Int) < (ids.length : Int) := by omega
     have hy1 := hP1.sok
     have CK := Lib.hid (fun W (T2 : List KRow) (hP : Pq B W pp tp p mb most Ln T2) => keys_Key hP idn hr2 hr3)
     have HP1 := Lib.hid hP1
     have HQ1 := Lib.hid hq1
     have HIN := Lib.hid hin
     have HKS := Lib.hid hks
     have HKB := Lib.hid hkb
     have HRS := Lib.hid hrs
     have HGO := Lib.hid hgo
     obtain ⟨KG, hKG⟩ : ∃ z, z = wr.heap.size := ⟨_, rfl⟩
     have HKG := Lib.hid hKG
     clear hKG hP1 hq1 hin hks hkb hrs hgo hr1 hR1
     go_wp2_with fail
     go_quiet (fail)
     have F5 : Fr0 wr ((wr.alloc (.cells #[.int .i64 x, .int .i64 (k : Nat)] 189 (0, 0))).drewN nq) := ((Fr0.refl wr).alloc _).drewN nq
     have b5 : ((wr.alloc (.cells #[.int .i64 x, .int .i64 (k : Nat)] 189 (0, 0))).drewN nq).heap[wr.heap.size]? = some (.cells #[.int .i64 x, .int .i64 (k : Nat)] 189 (0, 0)) := alloc_at _ _ _ rfl
     generalize (wr.alloc (.cells #[.int .i64 x, .int .i64 (k : Nat)] 189 (0, 0))).drewN nq = W5 at *
     rw [← HKG.out] at b5 ⊢
     have HF5 := Lib.hid F5
     have HB5 := Lib.hid b5
     clear c0 c1 lp d0 d1 df ld x0 x1 hkc lgk lgb HKG
     obtain ⟨c0, c1, lp⟩ := (HP1.out.kept0 F5).front
     obtain ⟨x0, x1, lg⟩ := cells2q b5
     have CP := Lib.hid (fun (hk1 : 1 < k) W (hW : Fr0 W5 W) => pq_Power (HP1.out.kept0 (F5.trans hW)) x k hkm hne0 (by omega) htx (by omega) (by omega))
     clear F5 b5
     go_upto_if 37 with fail
     go_cut [10, 11] (fun v10 v11 wx => ∃ T2, v10 = .int .i64 idn ∧ v11 = .int .u64 (kkey Ln idn) ∧ Pq B wx pp tp p mb most Ln T2 ∧ Kx B mb W5 wx)
     case first =>
      by_cases hk1 : 1 < k
      · have q7 : decide (1 < (k : Int)) = true := decide_eq_true (by omega)
        have e1 : Ln = addL Lm (powEnt Lm x k) ∧ idn = addI Lm (powEnt Lm x k) := by
         rw [← hLn, ← hidn]
         unfold rn1
         dsimp only
         rw [if_pos hk1]
         exact ⟨rfl, rfl⟩
        have CP2 := Lib.hid (fun W hW => CP.out hk1 W hW)
        rw [← e1.1, ← e1.2] at CP2
        have HKEY : Hid (∀ W, Kx B mb W5 W → W.cell? ⟨pp, 0, none⟩ = some (.pointer (some ⟨p, 0, none⟩)) ∧ W.cell? ⟨KG, 1, none⟩ = some (.int .i64 (k : Nat))) := by
         intro W h2
         have a1 := h2.cells _ _ _ _ (HF5.out.kept HP1.out.par) (by decide) id
         have a2 := h2.cells _ _ _ _ HB5.out (by decide) id
         exact ⟨(cells2q a1).1, (cells2q a2).2.1⟩
        clear CP e1 hLn hidn htx hkm hne0 hr2 hr3 hatk hpa hly hll hy1 hmg hLm hout
        go_wp2_with fail
        go_region_held3 (fun w' => w'.cell? ⟨pp, 0, none⟩ = some (.pointer (some ⟨p, 0, none⟩)) ∧ w'.cell? ⟨KG, 1, none⟩ = some (.int .i64 (k : Nat)))
         (exact HKEY.out _ (by first | exact Ks.refl _ _ _ _ | exact (Ks.refl _ _ _ _).drew | exact (Ks.refl _ _ _ _).drew.trans (by assumption)))
         ((first | (go_at_call 87; (with_reducible refine Calls.mono (CP2.out _ (by first | exact Fr0.refl _ | exact (Fr0.refl _).drew)) ?_); rintro e w6 ⟨rfl, hP6, hx6⟩)))
        all_goals
         obtain ⟨f0, f1, flp⟩ := hP6.front
         have CK2 := Lib.hid (CK.out _ _ hP6)
         have HX6 := Lib.hid hx6
         clear hP6 hx6 c0 c1 lp x0 x1 lg
         go_wp2_with fail
         refine CK2.out.mono ?_
         rintro e w7 ⟨T7, rfl, hP7, hx7⟩
         have HP7 := Lib.hid hP7
         have HX7 := Lib.hid hx7
         clear hP7 hx7
         go_wp2_with fail
         go_meet
         exact ⟨T7, rfl, rfl, HP7.out, ((Ks.refl _ _ _ _).drew.trans HX6.out).trans HX7.out⟩
      · have q7 : decide (1 < (k : Int)) = false := decide_eq_false (by omega)
        have e1 : Ln = Lm ∧ idn = x := by
         rw [← hLn, ← hidn]
         unfold rn1
         dsimp only
         rw [if_neg hk1]
         exact ⟨rfl, rfl⟩
        go_wp2_with fail
        go_meet
        refine ⟨T1, ?_, ?_, ?_, Ks.refl _ _ _ _⟩
        · rw [e1.2]
        · rw [e1.1, e1.2]
        · rw [e1.1]; exact HP1.out.kept0 HF5.out
     case rest =>
      obtain ⟨T2, rfl, rfl, hP2, hx2⟩ := hcut
      have HQ2 := Lib.hid ((HQ1.out.kept0 HF5.out).keptX hx2)
      have hkg := hx2.cells _ _ _ _ HB5.out (by decide) id
      obtain ⟨d0, d1, df, ld⟩ := cells2 HQ2.out.box
      obtain ⟨y0, y1, lg2⟩ := cells2q hkg
      have HKG2 := Lib.hid hkg
      have hbw2 : base ≤ wc.heap.size := Nat.le_trans hbw (Nat.le_trans (HKS.out.size) (Nat.le_trans (Fr.size HF5.out) hx2.size))
      have hlx := HIN.out.lx
      have hml := HIN.out.ml
      have hji : m + [idn].length ≤ xs.length ∨ m = xs.length := .inl (by simp only [List.length_singleton]; omega)
      have hjk : m + [kkey Ln idn].length ≤ ys.length ∨ m = ys.length := .inl (by simp only [List.length_singleton]; omega)
      have hli : xs.length + [idn].length ≤ 2000000 := by simp only [List.length_singleton]; omega
      have hlk : ys.length + [kkey Ln idn].length ≤ 2000000 := by simp only [List.length_singleton]; omega
      have HP2 := Lib.hid hP2
      have HX2 := Lib.hid hx2
      have HNEXT := Lib.hid (fun w4 iv3 kv3 => @lv_next base B w wr W5 wc w4 pp tp p mb most L Lm Ln Mn ids out xs ys K (K + 1) rb m at_ gi gq ci ck ci1 ck1 k idn T1 T2 iv3 kv3 HP1.out HQ1.out HIN.out HKS.out HKB.out HRS.out HF5.out hP2 hx2 HMN.out HW3.out hpos hatk hB hbw (by have := HKZ.out; omega) (by omega) (by omega))
      have HKGNE : Hid (sqS rb (.slice (some ⟨gi, 0, none⟩) m ci1) (.slice (some ⟨gq, 0, none⟩) m ck1) KG → False) := HQ2.out.far hkg (fun e => by
       have h1 := HQ2.out.box
       rw [← e] at h1
       exact ne_of_types hkg h1 (by decide) rfl) (by decide) (by decide)
      have hKGrb : KG ≠ rb := fun e => HKGNE.out (.inl e)
      have hgo2 := (HF5.out.owns HGO.out)
      have hgo3 := Kx.owns hx2 hgo2 (by decide)
      have HGKEEP : Hid (∀ W4, Fr (sqS rb (.slice (some ⟨gi, 0, none⟩) m ci1) (.slice (some ⟨gq, 0, none⟩) m ck1)) wc W4 → W4.ownsRow wcR 189 2 (.slice (some ⟨gb, 0, none⟩) G.length gc) G.length (G.flatMap gvR)) := fun W4 hW => hW.owns hgo3 (fun z hz => by
       obtain ⟨cur, hc⟩ := owns_block hgo3 hz
       exact HQ2.out.far hc (fun e => by
        have h1 := HQ2.out.box
        rw [← e] at h1
        exact ne_of_types hc h1 (by decide) rfl) (by decide) (by decide))
      have HLEN : Hid ((putR ys m [kkey Ln idn]).length = (putR xs m [idn]).length) := by
       show _ = _
       have := HIN.out.ly
       rw [putR_one_len _ _ (by omega), putR_one_len _ _ (by omega)]
       omega
      clear hgo2 hgo3
      generalize kkey Ln idn = kn at *
      clear hkg hP2 hx2 c0 c1 lp x0 x1 lg hLn hidn CP CK htx hkm hne0 hr2 hr3 hll hy1 hLm hout hml hpa
      go_wp2_with (first
       | (at_builtin; refine wpList_append_pre rt_id rfl _ _ rfl .i64 base (.slice (some ⟨gi, 0, none⟩) m ci1) m xs rfl (HQ2.out.pi.kept0 ((Fr0.refl wc).alloc _)) ⟨wc.heap.size, 0, none⟩ 1 [idn] rfl (World.news_of_block (cs := #[.int .i64 idn]) (t := 28) (fr := (0, 0)) (heap_alloc_new wc _)) hji hli (by simp; omega) ?_; intro v1 w2a hP2 hg2 hat2; have hv1 := hP2.at (hat2.resolve_right (fun e => by omega)); obtain ⟨vc, rfl⟩ := hv1; obtain ⟨hbox2, hpi2, hpk2, hfr2, hrb2⟩ := HQ2.out.putI (Fr0.refl wc) hP2 hg2; have hkg3 := hfr2.kept HKG2.out (fun e => HKGNE.out e); clear d0 d1 df ld y0 y1 lg2; obtain ⟨d0, d1, df, ld⟩ := cells2 hrb2; have HB2 := Lib.hid hbox2; have HPI2 := Lib.hid hpi2; have HPK2 := Lib.hid hpk2; have HFR2 := Lib.hid hfr2; have HKG3 := Lib.hid hkg3; have hls : base ≤ w2a.heap.size := (by have := hg2.size; simp at this; omega); clear hbox2 hpi2 hpk2 hfr2 hrb2 hP2 hg2 hat2 hkg3)
       | (at_builtin; refine wpList_append_pre rt_u64 rfl _ _ rfl .u64 base (.slice (some ⟨gq, 0, none⟩) m ck1) m ys rfl (HPK2.out.kept0 ((Fr0.refl (w2a.setCell ⟨rb, 0, none⟩ (.slice (some ⟨gi, 0, none⟩) (m + 1) vc))).alloc _)) ⟨w2a.heap.size, 0, none⟩ 1 [kn] rfl (World.news_of_block (cs := #[.int .u64 kn]) (t := 43) (fr := (0, 0)) (alloc_at (w2a.setCell ⟨rb, 0, none⟩ (.slice (some ⟨gi, 0, none⟩) (m + 1) vc)) _ w2a.heap.size (by simp [World.setCell]))) hjk hlk (by simp; omega) ?_; intro v3 w3a hP3 hg3 hat3; have hv3 := hP3.at (hat3.resolve_right (fun e => by omega)); obtain ⟨vd, rfl⟩ := hv3; obtain ⟨hsq3, hfr3, hrb3⟩ := SqP.putK HB2.out HPI2.out HPK2.out hP3 hg3 HLEN.out; have hkg4 := hfr3.kept HKG3.out (fun e => HKGNE.out (e.elim .inl (fun e => .inr (.inr e)))); have hkg5 := (setCell_other ⟨rb, 1, none⟩ (.slice (some ⟨gq, 0, none⟩) (m + 1) vd) (fun e => HKGNE.out (.inl e))).symm.trans hkg4; clear d0 d1 df ld; obtain ⟨d0, d1, df, ld⟩ := cells2 hrb3; obtain ⟨y0, y1, lg2⟩ := cells2q hkg5; have HSQ3 := Lib.hid hsq3; have HFR3 := Lib.hid (HFR2.out.trans hfr3 (fun k hk _ => hk.elim .inl (fun e => .inr (.inr e)))); clear hsq3 hfr3 hrb3 hP3 hg3 hat3 hkg4 hkg5))
      go_roundg (gk - 1)
      case measure => omega
      case rel => exact ⟨m + 1, at_ + k, by go_num, by go_num, by omega, HUT.out.symm, by rw [HSNOC.out]; exact HNEXT.out _ _ _ HSQ3.out ⟨_, rfl⟩ ⟨_, rfl⟩ HFR3.out, HGKEEP.out _ HFR3.out⟩
   · obtain rfl : m = G.length := by omega
     rw [List.take_of_length_le (Nat.le_refl _)] at hP1 hin
     have hfin := Lib.hid (lev_fin hP1 hq1 hin hks hrs hB hbw (by have := HKZ.out; omega) (by omega))
     obtain ⟨d0, d1, df, ld⟩ := cells2 hq1.box
     obtain ⟨e0, e1, ef, le⟩ := cells2 hrs
     obtain ⟨o0, o1, _, _⟩ := cells2 (put2 hrs (.slice (some ⟨gi, 0, none⟩) G.length ci1) (.slice (some ⟨gq, 0, none⟩) G.length ck1))
     have q4 : decide ((G.length : Int) < (G.length : Int)) = false := decide_eq_false (by omega)
     clear hP1 hq1 hin hks hkb hrs hgo
     go_wp2_with fail
     exact bodyPost_ret (v := .tuple #[.agg #[.slice (some ⟨gi, 0, none⟩) G.length ci1, .slice (some ⟨gq, 0, none⟩) G.length ck1], .nilIface]) (by simp [results, Tryz.results83, go_sem, o0, o1]) rfl hfin.out
end Go.Proofs.YtgldjpldldknoaaGreatDoor

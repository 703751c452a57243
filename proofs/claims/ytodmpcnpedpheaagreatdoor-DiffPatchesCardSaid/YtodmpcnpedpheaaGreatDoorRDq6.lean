/- The walk of table.change. -/
import Derived.Test.YtodmpcnpedpheaaGreatDoorRAc5
import Derived.Test.YtodmpcnpedpheaaGreatDoorRDq5
import Derived.Test.YtodmpcnpedpheaaGreatDoorRAzr
set_option linter.unusedSimpArgs false
set_option linter.unusedVariables false
namespace Go.Proofs.YtodmpcnpedpheaaGreatDoor
open Go.RowKit

/-- A balanced text in a parser's store. -/
theorem pq_Text {B : Nat} {w : World} {pp tp p mb : Nat} {most : Int} {L : List Ent} {T : List KRow} (h : Pq B w pp tp p mb most L T) (bb off cap : Nat) (bs : List Int) (hB : BytesAt w bb off bs) (h1 : 1 ≤ bs.length) (h3 : bs.length ≤ 65536) (hc : bs.length ≤ cap) (hc2 : cap ≤ 9223372036854775807) (hm : ((L.length + 2 * bs.length : Nat) : Int) ≤ most) (hL : L.length + 2 * bs.length ≤ 1000000) :
    Calls Tryz.prog 86 #[.pointer (some ⟨p, 0, none⟩), .slice (some ⟨bb, off, none⟩) bs.length cap] w fun e w' => ∃ L' id, e = .returned (.tuple #[.int .i64 id, .nilIface]) ∧ Pq B w' pp tp p mb most L' T ∧ Kx B mb w w' ∧ Gu L L' (2 * bs.length) ∧ Bal L' id bs (clog bs.length) := by
  obtain ⟨sv, hS, s1, s2, s3⟩ := h.st
  have hb := textR_bal (f := bs.length) h.sok h.dok (by omega) (Nat.le_refl _) h3 hB.rng
  refine (bal_Text hS h.sok h.dok bb off bs.length cap bs hB rfl (by omega) h3 hc hc2 hm (by omega)).mono ?_
  rintro e w' ⟨rfl, hst⟩
  obtain ⟨q1, q2⟩ := Sto.step hS s1 s2 s3 h.base hst
  have hg : Gu L (textR bs.length L bs).1 (2 * bs.length) := ⟨hb.2.le (by omega), Uq.text _ _ _ h.uq hB.rng⟩
  exact ⟨_, _, rfl, h.rules q1 q2 hg (by have := hg.gr.len; omega), Ks.ofK q2, hg, hb.1⟩

/-- A change's cells. -/
def chz (c : Int × Int × Int) : List Value := [.int .i64 c.1, .int .i64 c.2.1, .int .i64 c.2.2]
theorem info_chz : (Tryz.prog.info? 72).map (fun i => (i.zero, i.size, i.bytes)) = some (some (.agg #[.int .i64 0, .int .i64 0, .int .i64 0]), 3, 24) := by kernel_rfl
theorem rt_chz : RT 52 72 3 24 := by
  obtain ⟨i, h1, h2, h3, h4⟩ := info_parts info_chz
  exact ⟨by omega, i, _, by kernel_rfl, h1, h2, h3, h4, rfl⟩

theorem reps_mem {t : List Int} {x : Int} : ∀ {k : Nat}, x ∈ reps t k → x ∈ t
  | 0, h => by simp [reps] at h
  | k + 1, h => by
    rw [reps_succ] at h
    rcases List.mem_append.1 h with e | e
    · exact e
    · exact reps_mem e

theorem txt_rng {L : List Ent} (hD : DOk L) (hU : Uq L) : ∀ (n : Nat) (id : Int), id.toNat ≤ n → isKnown L id → ∀ x ∈ txt L id, 0 ≤ x ∧ x < 256 := by
  intro n
  induction n with
  | zero => intro id h hk x hx; have := hk.1; obtain rfl : id = 0 := by omega
            rw [txt_zero] at hx; simp at hx
  | succ n ih =>
    intro id h hk x hx
    by_cases h0 : id = 0
    · rw [h0, txt_zero] at hx; simp at hx
    · have h1 := hk.1
      have h2 := hk.2
      rcases hD.at id hk h0 with ⟨g1, _⟩ | ⟨g1, g2, _⟩ | ⟨g1, g2, _⟩
      · rw [txt_letter hk h0 g1, List.mem_singleton] at hx
        rw [hx]; exact hU.ltr id hk h0 g1
      · rw [txt_pair hD hk h0 g1] at hx
        rcases List.mem_append.1 hx with e | e
        · exact ih _ (by omega) ⟨by omega, by omega⟩ x e
        · exact ih _ (by omega) ⟨by omega, by omega⟩ x e
      · rw [txt_pow hD hk h0 g1] at hx
        exact ih _ (by omega) ⟨by omega, by omega⟩ x (reps_mem hx)

theorem bytes_own {base : Nat} {w : World} {v : Value} {out : List Int} (h : w.ownsRow base 5 1 v out.length (out.flatMap byz)) (h0 : out ≠ []) (hr : ∀ x ∈ out, 0 ≤ x ∧ x < 256) : ∃ g cap, v = .slice (some ⟨g, 0, none⟩) out.length cap ∧ BytesAt w g 0 out ∧ out.length ≤ cap ∧ cap ≤ maxLen := by
  rcases h.2 with ⟨_, e⟩ | ⟨g, cap, cur, e, _, hg, h1, h2, _, ht⟩
  · exact absurd (List.eq_nil_of_length_eq_zero e) h0
  · refine ⟨g, cap, e, ⟨⟨cur, (0, 0), hg, fun i hi => ?_⟩, hr⟩, h1, h2⟩
    have e2 := flat_get byz 1 out (fun _ _ => rfl) i 0 (by omega) _ (List.getElem?_eq_getElem hi)
    have h3 := congrArg (fun l => l[i]?) ht
    rw [List.getElem?_take_of_lt (by omega)] at h3
    rw [Nat.mul_one, Nat.add_zero] at e2
    rw [e2] at h3
    rw [Nat.zero_add, ← Array.getElem?_toList, h3]
    rfl

/-- What change leaves. -/
def ChPost (B0 base : Nat) (w : World) (pp tp p mb : Nat) (most : Int) (L : List Ent) (pv : Value) (cs : List (Int × Int × Int)) (fx x : Int) (t : List Int) (e : Ending) (w' : World) : Prop :=
  ∃ L' T' id pv', e = .returned (.tuple #[pv', .nilIface]) ∧ Pq B0 w' pp tp p mb most L' T' ∧ Ks (fun k => pv.ownBlock = some k) B0 mb w w' ∧ Gu L L' (2 * t.length) ∧ w'.ownsRow base 72 3 pv' (cs ++ [(fx, x - fx, id)]).length ((cs ++ [(fx, x - fx, id)]).flatMap chz) ∧ (∀ k, pv'.ownBlock = some k → pv.ownBlock = some k ∨ w.heap.size ≤ k) ∧ (t = [] → id = 0) ∧ ∃ d, BalZ L' id t d

theorem ch_grow {B0 base : Nat} {W w5 : World} {pp tp p mb : Nat} {most : Int} {L : List Ent} {T : List KRow} {pv : Value} {cs : List (Int × Int × Int)} {X : Obj} (hp : Pq B0 W pp tp p mb most L T) (hr : W.ownsRow base 72 3 pv cs.length (cs.flatMap chz)) (hB : B0 ≤ base) (hg : (W.alloc X).grownBy w5 pv.ownBlock) : Pq B0 w5 pp tp p mb most L T ∧ Fr (fun k => pv.ownBlock = some k) W w5 := by
  have F5 : Fr (fun k => pv.ownBlock = some k) W w5 := Fr.grown (S := fun k => pv.ownBlock = some k) (Fr0.fr ((Fr0.refl W).alloc X)) hg (fun k hk _ => hk)
  refine ⟨hp.keptO ((Ko.refl B0 W).fr F5 (fun k hk => ?_)), F5⟩
  obtain ⟨cur, hc⟩ := owns_block hr hk
  have := (World.ownsRow.lt hr k hk).1
  exact ⟨by omega, _, _, _, hc, by decide⟩

set_option maxRecDepth 100000 in
set_option maxHeartbeats 1000000 in
theorem df_change {B0 base bt : Nat} {w : World} {pp tp p mb tb : Nat} {most : Int} {L : List Ent} {T : List KRow} {a b n m : Int} {rs : List (RowD × Value)} {v pv : Value} {cs : List (Int × Int × Int)} (hp : Pq B0 w pp tp p mb most L T) (h : TabD bt w tb pp a b n m rs v) (hb : SigOk L b) (hr : w.ownsRow base 72 3 pv cs.length (cs.flatMap chz)) (hB : B0 ≤ base) (hbs : base ≤ w.heap.size) (hcl : cs.length ≤ 100000) (hl : (txt L b).length ≤ 300) (hL : L.length ≤ 6000) (hmost : ((L.length + 600 : Nat) : Int) ≤ most) (fx x fy y : Nat) (h1 : fx ≤ x) (h2 : x ≤ 1000000) (h3 : fy ≤ y) (h4 : y ≤ (txt L b).length) (hne : ¬ (x = fx ∧ y = fy)) :
    Calls Tryz.prog 63 #[.pointer (some ⟨tb, 0, none⟩), pv, .int .i64 fx, .int .i64 x, .int .i64 fy, .int .i64 y] w (ChPost B0 base w pp tp p mb most L pv cs fx x (rngT (txt L b) fy (y - fy))) := by
  obtain ⟨va, vc, rfl⟩ := owns_form h.row
  obtain ⟨pa, pc, rfl⟩ := owns_form hr
  obtain ⟨c0, c1, c2, c3, c4, c5, lt, cf⟩ := cells6t h.box
  have HP := Lib.hid hp
  have HH := Lib.hid h
  have HRW := Lib.hid hr
  have hBw := hp.base
  have hbk := hb.kn
  have CST := Lib.hid (fun W (hW : Fr0 w W) => sig_Store (hp.kept0 hW))
  have hm : 4 * (y - fy) * b.toNat ≤ 80000000 := by
    have hb2 := hbk.2
    have hb1 := hbk.1
    have e1 : 4 * (y - fy) ≤ 1200 := by omega
    have e2 : b.toNat ≤ 6000 := by omega
    have := Nat.mul_le_mul e1 e2
    omega
  have CEX := Lib.hid (fun W (hW : Fr0 w W) => ac_Extract (hp.kept0 hW).st hp.sok hp.dok hp.uq (Nat.le_trans hBw (Fr.size hW)) b hbk fy (y - fy) (by omega) (by omega) hm)
  obtain ⟨t, ht⟩ : ∃ t, rngT (txt L b) fy (y - fy) = t := ⟨_, rfl⟩
  have htl : t.length = y - fy := by rw [← ht]; exact rngT_len (by omega)
  have htr : Hid (∀ x ∈ t, 0 ≤ x ∧ x < 256) := fun z hz => txt_rng hp.dok hp.uq _ b (Nat.le_refl _) hbk z (by rw [← ht] at hz; exact List.mem_of_mem_drop (List.mem_of_mem_take hz))
  rw [ht] at CEX ⊢
  have q1 : IntKind.i64.wrap ((y : Int) - (fy : Int)) = ((y - fy : Nat) : Int) := by rw [show (y : Int) - (fy : Int) = ((y - fy : Nat) : Int) by omega]; exact wrapI (by omega) (by omega)
  have q2 : IntKind.i64.wrap ((x : Int) - (fx : Int)) = (x : Int) - (fx : Int) := wrapI (by omega) (by omega)
  obtain ⟨dn, hdn⟩ : ∃ dn, y - fy = dn := ⟨_, rfl⟩
  rw [hdn] at q1 CEX
  have htd : t.length = dn := by omega
  have hdb : dn ≤ 300 := by omega
  have HKC : Hid (∀ W, Kx B0 mb w W → W.cell? ⟨tb, 0, none⟩ = some (.pointer (some ⟨pp, 0, none⟩)) ∧ W.cell? ⟨tb, 2, none⟩ = some (.int .i64 b)) := fun W h5 => by
    obtain ⟨e0, _, e2, _⟩ := cells6t (h.keptX h5).box
    exact ⟨e0, e2⟩
  have HNE := Lib.hid hne
  have htb : t.length ≤ 300 := by omega
  clear htl htd
  clear hp h hr hb ht hl hne hm hdn
  go_enter Tryz.func63, Tryz.ntmps63
  go_upto_region 1 with fail
  go_cut [24] (fun u wx => u = .bool false ∧ w = wx)
  case first =>
    clear CST CEX HKC HP HH HRW htr
    by_cases hx : x = fx
    · have z1 : ((x : Int) == (fx : Int)) = true := by rw [hx]; simp
      have z2 : ((y : Int) == (fy : Int)) = false := beq_eq_false_iff_ne.2 (fun e => HNE.out ⟨hx, by omega⟩)
      clear hx
      go_wp2_with fail
      go_meet
      exact ⟨rfl, rfl⟩
    · have z1 : ((x : Int) == (fx : Int)) = false := beq_eq_false_iff_ne.2 (by omega)
      clear hx
      go_wp2_with fail
      go_meet
      exact ⟨rfl, rfl⟩
  case rest =>
  obtain ⟨rfl, rfl⟩ := hcut
  clear HNE
  go_upto_region 3 with fail
  go_cut [14, 15] (fun u14 u15 wx => u15 = .nilIface ∧ wx.ownsRow 0 5 1 u14 t.length (t.flatMap byz) ∧ Fr0 w wx)
  case first =>
    go_region_held3 (fun w' => w'.cell? ⟨tb, 0, none⟩ = some (.pointer (some ⟨pp, 0, none⟩)) ∧ w'.cell? ⟨tb, 2, none⟩ = some (.int .i64 b))
      (exact HKC.out _ (by first | exact Ks.refl _ _ _ _ | exact (Ks.refl _ _ _ _).drew | exact Ks.trans (Ks.of0 (Fr0.refl _).drew) (Ks.of0 (by assumption))))
      ((first | (go_at_call 20; (with_reducible refine Calls.mono (CST.out _ (by first | exact Fr0.refl _ | exact (Fr0.refl _).drew)) ?_); rintro e w5 ⟨rfl, rfl⟩) | (go_at_call 85; (with_reducible refine Calls.mono (CEX.out _ (by first | exact Fr0.refl _ | exact (Fr0.refl _).drew)) ?_); rintro e w5 ⟨v5, rfl, hO5, hF5⟩)))
    all_goals
      have HO5 := Lib.hid (owns_dn hO5 (Nat.zero_le _))
      have HF5 := Lib.hid hF5
      clear hO5 hF5
      go_wp2_with fail
      go_meet
      exact ⟨rfl, HO5.out, Fr0.trans (Fr0.refl w).drew HF5.out⟩
  case rest =>
  obtain ⟨rfl, hO, hF⟩ := hcut
  rename World => W2
  have HP2 := Lib.hid (HP.out.kept0 hF)
  have HR2 := Lib.hid (hF.owns HRW.out)
  have HF2 := Lib.hid hF
  obtain ⟨d0, _⟩ := cells6t (HH.out.kept0 hF).box
  have ld := lt_of_block (HH.out.kept0 hF).box
  have CS2 := Lib.hid (sig_Store HP2.out)
  have hs2 := Fr.size hF
  have hs2b : base ≤ W2.heap.size := Nat.le_trans hbs hs2
  clear c0 c1 c2 c3 c4 c5 lt cf CST CEX HKC HP hF HRW HH
  by_cases hd0 : t = []
  · subst hd0
    obtain ⟨ta, tc, rfl⟩ := own_nil hO
    clear hO
    go_wp2_with fail
    refine CS2.out.mono ?_
    rintro e w3 ⟨rfl, rfl⟩
    go_wp2_with fail
    refine (bal_Text_nil (w := W2) (p := p) ta tc).mono ?_
    rintro e w3 ⟨rfl, rfl⟩
    go_wp2_with (at_builtin; refine wpList_pushN (vals := chz) rt_chz rfl _ _ rfl base (.slice pa cs.length pc) cs [((fx : Int), (x : Int) - fx, 0)] rfl HR2.out hs2b 72 #[.int .i64 fx, .int .i64 ((x : Int) - fx), .int .i64 0] rfl rfl (by simp [chz, Value.oneCell']) _ _ _ rfl rfl rfl (by omega) (by omega) (by simp) ?_; intro v5 w5 hO5 hg5 hat5)
    obtain ⟨hp5, hf5⟩ := ch_grow HP2.out HR2.out hB hg5
    go_ret2
    exact ⟨L, T, 0, v5, rfl, hp5, Ks.fr (Ks.of0 HF2.out) hf5 (fun i _ e => e), (Gu.refl HP2.out.sok HP2.out.dok HP2.out.uq).le (by simp), hO5, fun k hk => hat5.elim (fun e => .inl (e.symm.trans hk)) (fun e => .inr (by have h9 := Option.some.inj (e.symm.trans hk); omega)), fun _ => rfl, 0, BalZ.zero L⟩
  · obtain ⟨tg, tc, rfl, hB2, htc, htc2⟩ := bytes_own hO hd0 htr.out
    have htc3 : tc ≤ 9223372036854775807 := by unfold maxLen at htc2; omega
    have ht1 : 1 ≤ t.length := by
      have := List.length_pos_iff.2 hd0
      omega
    have CT := Lib.hid (pq_Text HP2.out tg 0 tc t hB2 ht1 (by omega) htc htc3 (by omega) (by omega))
    clear hO hB2 htc htc2
    go_wp2_with fail
    refine CS2.out.mono ?_
    rintro e w3 ⟨rfl, rfl⟩
    go_wp2_with fail
    refine CT.out.mono ?_
    rintro e w3 ⟨L3, id3, rfl, hp3, hk3, hg3, hb3⟩
    have HP3 := Lib.hid hp3
    have HK3 := Lib.hid hk3
    have HG3 := Lib.hid hg3
    have HT3 := Lib.hid hb3
    have HR3 := Lib.hid (Kx.owns hk3 HR2.out (by decide))
    have hs3 : base ≤ w3.heap.size := Nat.le_trans hs2b hk3.size
    have hs4 := hk3.size
    clear hp3 hk3 hg3 hb3 CT CS2
    go_wp2_with (at_builtin; refine wpList_pushN (vals := chz) rt_chz rfl _ _ rfl base (.slice pa cs.length pc) cs [((fx : Int), (x : Int) - fx, id3)] rfl HR3.out hs3 72 #[.int .i64 fx, .int .i64 ((x : Int) - fx), .int .i64 id3] rfl rfl (by simp [chz, Value.oneCell']) _ _ _ rfl rfl rfl (by omega) (by omega) (by simp) ?_; intro v5 w5 hO5 hg5 hat5)
    obtain ⟨hp5, hf5⟩ := ch_grow HP3.out HR3.out hB hg5
    go_ret2
    exact ⟨L3, T, id3, v5, rfl, hp5, Ks.fr (Ks.trans (Ks.of0 HF2.out) (Ks.weak HK3.out (fun _ _ e => e.elim))) hf5 (fun i _ e => e), HG3.out, hO5, fun k hk => hat5.elim (fun e => .inl (e.symm.trans hk)) (fun e => .inr (by have h9 := Option.some.inj (e.symm.trans hk); omega)), fun e => absurd e hd0, _, HT3.out.z⟩

end Go.Proofs.YtodmpcnpedpheaaGreatDoor

/- The walks of Extract's closure (one copy), access.parts (texts of different letters) and access.Extract. -/
import Derived.Test.YtodmpcnpedpheaaDoorQAc3
set_option linter.unusedSimpArgs false
set_option linter.unusedVariables false
namespace Go.Proofs.YtodmpcnpedpheaaDoor
open Go.RowKit

theorem SpW.front {B mb base : Nat} {w W : World} {p : Nat} {most : Int} {L : List Ent} {bt : Nat} {v0 v : Value} {out : List Int} (h : SpW B mb base w W p most L bt v0 v out) (h0 : out ≠ []) : ∃ g cap, v = .slice (some ⟨g, 0, none⟩) out.length cap ∧ out.length ≤ cap := by
  rcases h.tx.row.2 with ⟨_, e⟩ | ⟨g, cap, cur, e, _, _, h1, _⟩
  · exact absurd (List.eq_nil_of_length_eq_zero e) h0
  · exact ⟨g, cap, e, h1⟩

set_option maxRecDepth 100000 in
set_option maxHeartbeats 4000000 in
theorem ac_visit {B mb base : Nat} {w : World} {p bt sb : Nat} {most : Int} {L : List Ent} {v : Value} {out : List Int} (hS : Sto B w p mb most L) (hSO : SOk L) (hD : DOk L) (hU : Uq L) (hT : Tx base w bt v out) (hsb : w.heap[sb]? = some (Obj.cells #[.pointer (some ⟨p, 0, none⟩)] 29 (0, 0))) (hB : B ≤ base) (hbt : B ≤ bt) (hb : base ≤ w.heap.size) (x : Int) (hk : isKnown L x) (h0 : x ≠ 0) (hl : (txt L x).length ≤ 1000) (ho : out.length ≤ 100000) :
    Calls Tryd.prog 80 #[.int .i64 x, .int .i64 1, .pointer (some ⟨bt, 0, none⟩), .pointer (some ⟨sb, 0, none⟩)] w (SlPost B mb base w p most L bt v (out ++ txt L x)) := by
  have C := Lib.hid (ac_spell hS hSO hD hU hT hB hbt hb x hk h0 hl ho)
  have hp := txt_pos hSO hD hk h0
  obtain ⟨va, vc, rfl⟩ := owns_form hT.row
  obtain ⟨t0, tf, lt⟩ := cells1t hT.box
  obtain ⟨s0, sf, ls⟩ := cells1t hsb
  have hne : out ++ txt L x ≠ [] := fun e => by rw [List.append_eq_nil_iff] at e; rw [e.2] at hp; simp at hp
  have hlen : (out ++ txt L x).length = out.length + (txt L x).length := List.length_append
  generalize out ++ txt L x = R at *
  clear hS hT hsb hk hl
  go_enter Tryd.func80, Tryd.ntmps80
  go_wp2_with fail
  refine C.out.mono ?_
  rintro e w1 ⟨v1, rfl, h1⟩
  obtain ⟨g, cap, rfl, hc⟩ := h1.front hne
  have H1 := Lib.hid h1
  clear t0 tf lt s0 sf ls C
  obtain ⟨t0, tf, lt⟩ := cells1t h1.tx.box
  have q1 : (0 : Int) ≤ (out.length : Int) := by omega
  have q2 : (out.length : Int) ≤ (R.length : Int) := by omega
  have q3 : (R.length : Int) ≤ (cap : Int) := by omega
  have q4 : ¬ cap = out.length := by omega
  have q5 : ¬ R.length = out.length := by omega
  clear h1
  go_wp2_with fail
  go_loopg [23] 0 (fun gk u wr => u = .int .i64 0 ∧ gk = 0 ∧ w1 = wr)
  case atStart => exact ⟨rfl, rfl, rfl⟩
  case round =>
    obtain ⟨rfl, rfl, rfl⟩ := hrel
    go_wp2_with fail
    go_ret
    exact ⟨_, rfl, H1.out⟩

theorem SpW.trans {B mb base : Nat} {w W W' : World} {p : Nat} {most : Int} {L : List Ent} {bt : Nat} {v0 v v' : Value} {out out' : List Int} (h : SpW B mb base w W p most L bt v0 v out) (g : SpW B mb base W W' p most L bt v v' out') : SpW B mb base w W' p most L bt v0 v' out' :=
  ⟨g.st, g.tx, h.fr.trans g.fr (fun k hk hlt => by
    rcases hk with e | e
    · exact .inl e
    · rcases h.own k e with e2 | e2
      · exact .inr e2
      · omega), fun k hk => by
    have hs := h.fr.size
    rcases g.own k hk with e | e
    · exact h.own k e
    · exact .inr (by omega)⟩

theorem SpW.farS {B mb base : Nat} {w W W' : World} {p : Nat} {most : Int} {L : List Ent} {bt : Nat} {v0 v z : Value} {out : List Int} {td : List Sp} (h : SpW B mb base w W p most L bt v0 v out) (hB : B ≤ w.heap.size) (hz : W.ownsRow w.heap.size 176 4 z td.length (td.flatMap spZ)) (f : Fr (fun k => z.ownBlock = some k) W W') : SpW B mb base w W' p most L bt v0 v out := by
  have hblk : ∀ k, z.ownBlock = some k → w.heap.size ≤ k ∧ ∃ cur, W.heap[k]? = some (Obj.cells cur 176 (0, 0)) := fun k hk => by
    obtain ⟨cur, hc⟩ := owns_block hz hk
    exact ⟨(World.ownsRow.lt hz k hk).1, cur, hc⟩
  refine ⟨h.st.keptO ((Ko.refl B W).fr f (fun k hk => by
    obtain ⟨h1, cur, h2⟩ := hblk k hk
    exact ⟨by omega, _, _, _, h2, by decide⟩)), ⟨f.kept h.tx.box (fun e => ?_), f.owns h.tx.row (fun k hk e => ?_)⟩, h.fr.trans f (fun k hk hlt => ?_), h.own⟩
  · obtain ⟨_, cur, h2⟩ := hblk _ e
    exact ne_of_types h2 h.tx.box (by decide) rfl
  · obtain ⟨_, cur, h2⟩ := hblk _ e
    obtain ⟨cur3, h3⟩ := owns_block h.tx.row hk
    rw [h2] at h3
    cases h3
  · have := (hblk k hk).1; omega

theorem reps_nd {t : List Int} {k : Nat} (ht : 1 ≤ t.length) (hk : 2 ≤ k) : ¬ (reps t k).Nodup := by
  obtain ⟨q, rfl⟩ : ∃ q, k = q + 2 := ⟨k - 2, by omega⟩
  obtain ⟨x, r, rfl⟩ : ∃ x r, t = x :: r := by
    cases t with
    | nil => simp at ht
    | cons x r => exact ⟨x, r, rfl⟩
  rw [reps_succ, reps_succ]
  intro h
  have := List.nodup_append.1 h
  exact this.2.2 x (by simp) x (by simp) rfl

/-- The parts of a text of different letters. -/
structure NdAll (L : List Ent) (ss : List Sp) : Prop where
  ok : SAll L ss
  nd : ∀ s ∈ ss, (txt L s.id).Nodup ∧ s.times = 1 ∧ (txt L s.id).length ≤ 1000

theorem nd_kind {L : List Ent} (hS : SOk L) (hD : DOk L) (hU : Uq L) {ss : List Sp} {s : Sp} (h : NdAll L (ss ++ [s])) (hn : s.n ≠ (txt L s.id).length) (h1 : s.n ≠ 0) : s.id ≠ 0 ∧ (entAt L s.id).rule.kind = 2 := by
  have hs := h.ok.last
  have hnd := h.nd s (by simp)
  have hf := hs.fit
  have h0 : s.id ≠ 0 := fun e => by rw [e, txt_zero] at hf; simp at hf; omega
  refine ⟨h0, ?_⟩
  have hk2 := hs.kn.2
  rcases hD.at s.id hs.kn h0 with ⟨g1, _⟩ | ⟨g1, _⟩ | ⟨g1, g2, _⟩
  · rw [txt_letter hs.kn h0 g1] at hf hn
    simp at hf hn
    omega
  · exact g1
  · exfalso
    rw [txt_pow hD hs.kn h0 g1] at hnd
    have hu := hU.pow s.id hs.kn h0 g1
    exact reps_nd (txt_pos hS hD (id := (entAt L s.id).rule.left) ⟨by omega, by omega⟩ (by omega)) (by omega) hnd.1

theorem nd_pair {L : List Ent} (hS : SOk L) (hD : DOk L) (hU : Uq L) {ss : List Sp} {s : Sp} (h : NdAll L (ss ++ [s])) (hn : s.n ≠ (txt L s.id).length) (h1 : s.n ≠ 0) (g : Nat) (hg : g = min ((txt L (entAt L s.id).rule.left).length - s.from_) s.n) :
    NdAll L (ss ++ [⟨(entAt L s.id).rule.right, s.from_ - (txt L (entAt L s.id).rule.left).length, s.n - g, 1⟩, ⟨(entAt L s.id).rule.left, min s.from_ (txt L (entAt L s.id).rule.left).length, g, 1⟩]) := by
  obtain ⟨h0, h2⟩ := nd_kind hS hD hU h hn h1
  refine ⟨(pair_parts hS hD h.ok hn h1 h2 g hg).1, fun x hx => ?_⟩
  have hnd := h.nd s (by simp)
  have e := txt_pair hD h.ok.last.kn h0 h2
  have hl := congrArg List.length e
  rw [List.length_append] at hl
  rw [e] at hnd
  have hn2 := List.nodup_append.1 hnd.1
  rcases List.mem_append.1 hx with h3 | h3
  · exact h.nd x (by simp [h3])
  · simp only [List.mem_cons, List.not_mem_nil, or_false] at h3
    rcases h3 with rfl | rfl
    · exact ⟨hn2.2.1, rfl, by show (txt L (entAt L s.id).rule.right).length ≤ 1000; rw [List.length_append] at hnd; omega⟩
    · exact ⟨hn2.1, rfl, by show (txt L (entAt L s.id).rule.left).length ≤ 1000; rw [List.length_append] at hnd; omega⟩

set_option maxRecDepth 100000 in
set_option maxHeartbeats 4000000 in
theorem ac_parts {B mb base : Nat} {w : World} {p bt sb : Nat} {most : Int} {L : List Ent} {v : Value} {out : List Int} (hS : Sto B w p mb most L) (hSO : SOk L) (hD : DOk L) (hU : Uq L) (hT : Tx base w bt v out) (hsb : w.heap[sb]? = some (Obj.cells #[.pointer (some ⟨p, 0, none⟩)] 29 (0, 0))) (hB : B ≤ base) (hbt : B ≤ bt) (hb : base ≤ w.heap.size) (id : Int) (hk : isKnown L id) (f n : Nat) (hfit : f + n ≤ (txt L id).length) (hnd : (txt L id).Nodup) (hl : (txt L id).length ≤ 1000) (ho : out.length ≤ 10000) (hm : 4 * n * id.toNat ≤ 800000) :
    Calls Tryd.prog 79 #[.pointer (some ⟨p, 0, none⟩), .int .i64 id, .int .i64 f, .int .i64 n, .func (.func 80) #[] #[.pointer (some ⟨bt, 0, none⟩), .pointer (some ⟨sb, 0, none⟩)]] w (SlPost B mb base w p most L bt v (out ++ rngT (txt L id) f n)) := by
  have hBw : B ≤ w.heap.size := Nat.le_trans hB hb
  have HW : Hid (SpW B mb base w w p most L bt v v out) := ⟨hS, hT, Fr.refl _ w, fun k hk => .inl hk⟩
  have HSB := Lib.hid hsb
  have HNS : Hid (¬ (sb = bt ∨ v.ownBlock = some sb)) := fun e => by
    rcases e with e | e
    · exact ne_of_types hsb hT.box (by decide) e
    · obtain ⟨cur, hc⟩ := owns_block hT.row e
      exact ne_of_types hc hsb (by decide) rfl
  obtain ⟨R, hR⟩ : ∃ R, out ++ rngT (txt L id) f n = R := ⟨_, rfl⟩
  rw [hR]
  have hRl : R.length ≤ 11000 := by rw [← hR, List.length_append, rngT_len hfit]; omega
  have HR0 : Hid (out ++ restS L [⟨id, f, n, 1⟩] = R) := by
    show _ = _
    rw [← hR]
    congr 1
    show reps (rngT (txt L id) f n) 1 ++ [] = _
    rw [List.append_nil, reps_one]
  have HC : Hid (NdAll L [⟨id, f, n, 1⟩]) := ⟨fun q hq => by rw [List.mem_singleton.1 hq]; exact ⟨hk, hfit, .inl rfl⟩, fun q hq => by rw [List.mem_singleton.1 hq]; exact ⟨hnd, rfl, hl⟩⟩
  clear hS hT hk hfit hl ho hR hnd hsb
  go_enter Tryd.func79, Tryd.ntmps79
  go_wp2_with fail
  have HRW : Hid ((w.alloc (.cells #[.int .i64 id, .int .i64 f, .int .i64 n, .int .i64 1] 176 (0, 0))).ownsRow w.heap.size 176 4 (.slice (some ⟨w.heap.size, 0, none⟩) 1 1) [(⟨id, f, n, 1⟩ : Sp)].length ([(⟨id, f, n, 1⟩ : Sp)].flatMap spZ)) := own_built w _ _ 4 1 rfl (by omega)
  have HW1 := Lib.hid (HW.out.next0 ((Fr0.refl w).alloc (.cells #[.int .i64 id, .int .i64 f, .int .i64 n, .int .i64 1] 176 (0, 0))))
  generalize w.alloc (.cells #[.int .i64 id, .int .i64 f, .int .i64 n, .int .i64 1] 176 (0, 0)) = W1 at *
  clear HW
  go_loopg [11] (mesS [⟨id, f, n, 1⟩]) (fun gk tv wr => ∃ (ss : List Sp) (v' : Value) (out' : List Int), gk = mesS ss ∧ ss.length + gk ≤ 900000 ∧ wr.ownsRow w.heap.size 176 4 tv ss.length (ss.flatMap spZ) ∧ NdAll L ss ∧ out' ++ restS L ss = R ∧ SpW B mb base w wr p most L bt v v' out')
  case atStart => exact ⟨[⟨id, f, n, 1⟩], v, out, rfl, (by unfold mesS; simp; omega), HRW.out, HC.out, HR0.out, HW1.out⟩
  case round =>
    clear HRW HC HR0 HW1
    obtain ⟨ss, v', out', hgk, hsl, hrow, hC, hR, hW⟩ := hrel
    rcases list_end ss with rfl | ⟨ss', s, rfl⟩
    · obtain ⟨za, zc, rfl⟩ := own_nil hrow
      have HW := Lib.hid hW
      rw [restS_nil, List.append_nil] at hR
      have HR := Lib.hid hR
      clear hrow hC hR hW
      go_wp2_with fail
      go_ret
      refine ⟨v', rfl, ?_⟩
      rw [← HR.out]
      exact HW.out
    · obtain ⟨g, gc, rfl, hbg, lg, gf, gcell, hg1, hg2⟩ := own_end hrow (spZ_len _)
      have g0 := gcell 0 _ rfl
      have g1 := gcell 1 _ rfl
      have g2 := gcell 2 _ rfl
      have g3 := gcell 3 _ rfl
      rw [Nat.add_zero] at g0
      rw [List.length_append, List.length_singleton] at hsl
      have hs := hC.ok.last
      have hnds := hC.nd s (by simp)
      have hkx := hs.kn
      have hfx := hs.fit
      rw [hnds.2.1] at g3
      have q1 : (0 : Int) ≤ (ss'.length : Int) := by omega
      have q2 : (ss'.length : Int) < (ss'.length : Int) + 1 := by omega
      have q3 : IntKind.i64.wrap ((ss'.length : Int) + 1 - 1) = (ss'.length : Int) := by rw [show (ss'.length : Int) + 1 - 1 = (ss'.length : Int) by omega]; exact wrapI (by omega) (by omega)
      have q4 : decide ((0 : Int) < (ss'.length : Int) + 1) = true := decide_eq_true (by omega)
      have q5 : (ss'.length : Int) ≤ (gc : Int) := by omega
      have hr5 := hrow
      rw [List.length_append, List.length_singleton, List.flatMap_append] at hr5
      have RP := Lib.hid (ownsRow_pop (by rw [spZ_len]) hr5)
      have HCC := Lib.hid hC
      have HR := Lib.hid hR
      have HW := Lib.hid hW
      have hml := mesS_push ss' s
      rw [hnds.2.1, if_neg (by decide), ← hgk] at hml
      have ht1 := hnds.2.1
      have hsx := hnds.2.2
      have CWT := Lib.hid (fun W (hWW : Fr0 wr W) => sto_Weight (hW.st.keptO (Ko.of0 hWW)) s.id hkx)
      have hlw := txt_len hD hSO _ s.id (Nat.le_refl _) hkx
      rw [← hlw] at CWT
      generalize (entAt L s.id).wt = wt at *
      clear hrow hr5 gcell hbg hR hW hC hs hnds hlw
      by_cases hn0 : s.n = 0
      · have z1 : ((s.n : Int) == 0) = true := by rw [hn0]; rfl
        have HE := Lib.hid (spT_none (L := L) (s := s) (.inl hn0))
        clear hn0 CWT
        go_wp2_with fail
        go_roundg (mesS ss')
        case measure => omega
        case rel => exact ⟨ss', v', out', rfl, by omega, ((Fr0.refl wr).alloc _).owns RP.out, ⟨HCC.out.ok.init, fun q hq => HCC.out.nd q (by simp [hq])⟩, (by have := HR.out; rw [restS_push, HE.out] at this; exact this), HW.out.next0 ((Fr0.refl wr).alloc _)⟩
      · have z1 : ((s.n : Int) == 0) = false := beq_eq_false_iff_ne.2 (by omega)
        have F2 : Fr0 wr (wr.alloc (.cells #[.int .i64 s.id, .int .i64 s.from_, .int .i64 s.n, .int .i64 1] 176 (0, 0))) := (Fr0.refl wr).alloc _
        have b2 := alloc_at wr (.cells #[.int .i64 s.id, .int .i64 s.from_, .int .i64 s.n, .int .i64 1] 176 (0, 0)) wr.heap.size rfl
        go_upto_region 6 with fail
        generalize wr.alloc (.cells #[.int .i64 s.id, .int .i64 s.from_, .int .i64 s.n, .int .i64 1] 176 (0, 0)) = W2 at *
        generalize wr.heap.size = A at *
        have C2 := Lib.hid (CWT.out _ F2)
        have HF2 := Lib.hid F2
        have HB2 := Lib.hid b2
        obtain ⟨a0, a1, a2, a3, af, la⟩ := cells4s b2
        clear g0 g1 g2 g3 gf lg F2 b2 CWT
        go_wp2_with fail
        refine C2.out.mono ?_
        rintro e w3 ⟨rfl, f3⟩
        go_upto_region 9 with fail
        have F4 : Fr0 W2 (w3.alloc (.cells #[.int .i64 (txt L s.id).length, .int .i64 wt.lines, .int .i64 wt.head, .int .i64 wt.tail, .int .u64 wt.val, .int .u64 wt.scale] 83 (0, 0))) := f3.alloc _
        have b4 := alloc_at w3 (.cells #[.int .i64 (txt L s.id).length, .int .i64 wt.lines, .int .i64 wt.head, .int .i64 wt.tail, .int .u64 wt.val, .int .u64 wt.scale] 83 (0, 0)) w3.heap.size rfl
        generalize w3.alloc (.cells #[.int .i64 (txt L s.id).length, .int .i64 wt.lines, .int .i64 wt.head, .int .i64 wt.tail, .int .u64 wt.val, .int .u64 wt.scale] 83 (0, 0)) = W4 at *
        generalize w3.heap.size = K4 at *
        have HF4 := Lib.hid (HF2.out.trans F4)
        have b5 := F4.kept HB2.out
        have HB5 := Lib.hid b5
        clear a0 a1 a2 a3 af la C2 f3 F4 HB2
        obtain ⟨a0, a1, a2, a3, af, la⟩ := cells4s b5
        obtain ⟨e0, _, _, _, _, _, le, _⟩ := cells6t b4
        clear b4 b5
        have HW4 := Lib.hid (HW.out.next0 HF4.out)
        have HR4 := Lib.hid (HF4.out.owns RP.out)
        have hw4 : w.heap.size ≤ W4.heap.size := HW4.out.fr.size
        by_cases hnl : s.n = (txt L s.id).length
        · have z2 : ((s.n : Int) == ((txt L s.id).length : Int)) = true := by rw [hnl]; simp
          have hx0 : s.id ≠ 0 := fun e => by rw [e, txt_zero] at hnl; exact hn0 hnl
          have hol : out'.length ≤ 100000 := by have := congrArg List.length HR.out; rw [List.length_append] at this; omega
          have CV := Lib.hid (ac_visit HW4.out.st hSO hD hU HW4.out.tx (HW4.out.fr.kept HSB.out HNS.out) hB hbt (Nat.le_trans hb hw4) s.id hkx hx0 hsx hol)
          have HE := Lib.hid (spT_all HCC.out.ok.last hnl)
          have HRK : Hid (∀ W, Fr (fun k => k = bt ∨ v'.ownBlock = some k) W4 W → W.ownsRow w.heap.size 176 4 (.slice (some ⟨g, 0, none⟩) ss'.length gc) ss'.length (ss'.flatMap spZ)) := fun W hf => hf.owns HR4.out (fun z hz e => by
            obtain ⟨cur, hc⟩ := owns_block HR4.out hz
            rcases e with e | e
            · exact ne_of_types hc HW4.out.tx.box (by decide) e
            · obtain ⟨cur3, h3⟩ := owns_block HW4.out.tx.row e
              rw [hc] at h3
              cases h3)
          clear hnl hn0
          go_wp2_with fail
          refine CV.out.mono ?_
          rintro e w6 ⟨v6, rfl, h6⟩
          have HW6 := Lib.hid (HW4.out.trans h6)
          have HR6 := Lib.hid (HRK.out _ h6.fr)
          clear h6 CV HRK
          go_wp2_with fail
          go_roundg (mesS ss')
          case measure => omega
          case rel => exact ⟨ss', v6, out' ++ txt L s.id, rfl, by omega, HR6.out, ⟨HCC.out.ok.init, fun q hq => HCC.out.nd q (by simp [hq])⟩, (by have := HR.out; rw [restS_push, HE.out, ht1, reps_one] at this; rw [List.append_assoc]; exact this), HW6.out⟩
        · have z2 : ((s.n : Int) == ((txt L s.id).length : Int)) = false := beq_eq_false_iff_ne.2 (by omega)
          obtain ⟨hx0, hk2⟩ := nd_kind hSO hD hU HCC.out hnl hn0
          have HPP := Lib.hid (fun gg hgg => pair_parts hSO hD HCC.out.ok hnl hn0 hk2 gg hgg)
          have HND := Lib.hid (fun gg hgg => nd_pair hSO hD hU HCC.out hnl hn0 gg hgg)
          have CR := Lib.hid (sto_Rule HW4.out.st s.id hkx hx0)
          have hx2 := hkx.2
          have hkl : isKnown L (entAt L s.id).rule.left := by
            rcases hD.at s.id hkx hx0 with ⟨e, _⟩ | ⟨_, e, _⟩ | ⟨e, _⟩
            · omega
            · exact ⟨by omega, by omega⟩
            · omega
          have CWL := Lib.hid (fun W (hWW : Fr0 W4 W) => sto_Weight (HW4.out.st.keptO (Ko.of0 hWW)) (entAt L s.id).rule.left hkl)
          have hll := txt_len hD hSO _ (entAt L s.id).rule.left (Nat.le_refl _) hkl
          have hlb := txt_big hSO hD hkl
          rw [← hll] at CWL
          generalize (entAt L (entAt L s.id).rule.left).wt = wl at *
          obtain ⟨E, hE⟩ : ∃ E, (entAt L s.id).rule = E := ⟨_, rfl⟩
          obtain ⟨kd, le2, l, r, tm⟩ := E
          rw [hE] at CR HPP HND hk2 CWL hlb
          dsimp only at CR HPP HND hk2 CWL hlb
          subst hk2
          obtain ⟨lf, hlf⟩ : ∃ lf, (txt L l).length = lf := ⟨_, rfl⟩
          rw [hlf] at HPP HND CWL hlb
          obtain ⟨gg, hgg⟩ : ∃ gg, gg = min (lf - s.from_) s.n := ⟨_, rfl⟩
          have HP := Lib.hid (HPP.out gg hgg)
          have HN := Lib.hid (HND.out gg hgg)
          have HGG := Lib.hid hgg
          have HB5' := HB5
          clear hll hE hkl hlf HPP HND hgg hnl hn0 HB5
          go_wp2_with fail
          refine CR.out.mono ?_
          rintro e w5 ⟨rfl, f5⟩
          go_upto_region 16 with fail
          have F6 : Fr0 W4 (w5.alloc (.cells #[.int .i64 2, .int .u8 le2, .int .i64 l, .int .i64 r, .int .i64 tm] 112 (0, 0))) := f5.alloc _
          have b6 := alloc_at w5 (.cells #[.int .i64 2, .int .u8 le2, .int .i64 l, .int .i64 r, .int .i64 tm] 112 (0, 0)) w5.heap.size rfl
          generalize w5.alloc (.cells #[.int .i64 2, .int .u8 le2, .int .i64 l, .int .i64 r, .int .i64 tm] 112 (0, 0)) = W6 at *
          generalize w5.heap.size = K6 at *
          have CWL6 := Lib.hid (CWL.out _ F6)
          have HF6 := Lib.hid F6
          have HB6 := Lib.hid b6
          have b7 := F6.kept HB5'.out
          have HB7 := Lib.hid b7
          clear a0 a1 a2 a3 af la e0 le CR CWL f5 F6
          obtain ⟨c0, c1, c2, c3, c4, lc⟩ := cells5 b6
          clear b6 b7
          go_wp2_with fail
          refine CWL6.out.mono ?_
          rintro e w7 ⟨rfl, f7⟩
          go_upto_region 19 with fail
          have F8 : Fr0 W6 (w7.alloc (.cells #[.int .i64 (lf : Nat), .int .i64 wl.lines, .int .i64 wl.head, .int .i64 wl.tail, .int .u64 wl.val, .int .u64 wl.scale] 83 (0, 0))) := f7.alloc _
          have b8 := alloc_at w7 (.cells #[.int .i64 (lf : Nat), .int .i64 wl.lines, .int .i64 wl.head, .int .i64 wl.tail, .int .u64 wl.val, .int .u64 wl.scale] 83 (0, 0)) w7.heap.size rfl
          generalize w7.alloc (.cells #[.int .i64 (lf : Nat), .int .i64 wl.lines, .int .i64 wl.head, .int .i64 wl.tail, .int .u64 wl.val, .int .u64 wl.scale] 83 (0, 0)) = W8 at *
          generalize w7.heap.size = K8 at *
          have HW8 := Lib.hid (HW4.out.next0 (HF6.out.trans F8))
          have HR8 := Lib.hid ((HF6.out.trans F8).owns HR4.out)
          have b9 := F8.kept HB6.out
          have b10 := F8.kept HB7.out
          have hw8 : w.heap.size ≤ W8.heap.size := HW8.out.fr.size
          have hfb : s.from_ + s.n ≤ 1152921504606846976 := by omega
          have CH := ac_halve HR8.out hw8 (by omega) 2 le2 l r tm lf s hlb hfb gg HGG.out
          rw [ht1] at CH
          have HCH := Lib.hid CH
          clear c0 c1 c2 c3 c4 lc HF6 HB6 HB7 CWL6 f7 F8 CH HR4 HW4
          obtain ⟨c0, c1, c2, c3, c4, lc⟩ := cells5 b9
          obtain ⟨a0, a1, a2, a3, af, la⟩ := cells4s b10
          obtain ⟨e0, _, _, _, _, _, le, _⟩ := cells6t b8
          clear b8 b9 b10
          go_wp2_with fail
          refine HCH.out.mono ?_
          rintro e w9 ⟨v9, rfl, hO9, hF9, _⟩
          have HW9 := Lib.hid (HW8.out.farS hBw HR8.out hF9)
          have HO9 := Lib.hid hO9
          clear hO9 hF9 HCH
          go_wp2_with fail
          go_roundg (mesS (ss' ++ [⟨r, s.from_ - lf, s.n - gg, 1⟩, ⟨l, min s.from_ lf, gg, 1⟩]))
          case measure => have := HP.out.2.2; rw [mesS_push, ht1, if_neg (by decide)] at this; omega
          case rel =>
            refine ⟨_, v', out', rfl, ?_, HO9.out, HN.out, (by rw [HP.out.2.1]; exact HR.out), HW9.out⟩
            have := HP.out.2.2
            rw [mesS_push (ss := ss') (s := s), ht1, if_neg (by decide)] at this
            rw [List.length_append, List.length_cons, List.length_singleton]
            omega

end Go.Proofs.YtodmpcnpedpheaaDoor

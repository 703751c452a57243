/- The walks of Extract's closure and of access.parts. -/
import Derived.Test.YtgldjpldldknoaaGreatDoorRAk0
import Derived.Test.YtgldjpldldknoaaGreatDoorRAc1
set_option linter.unusedSimpArgs false
set_option linter.unusedVariables false
namespace Go.Proofs.YtgldjpldldknoaaGreatDoor
open Go.RowKit
theorem SpW.front {B mb base : Nat} {w W : World} {p : Nat} {most : Int} {L : List Ent} {bt : Nat} {v0 v : Value} {out : List Int} (h : SpW B mb base w W p most L bt v0 v out) (h0 : out ≠ []) : ∃ g cap, v = .slice (some ⟨g, 0, none⟩) out.length cap ∧ out.length ≤ cap := by
 rcases h.tx.row.2 with ⟨_, e⟩ | ⟨g, cap, cur, e, _, _, h1, _⟩
 · exact absurd (List.eq_nil_of_length_eq_zero e) h0
 · exact ⟨g, cap, e, h1⟩
theorem SpW.copy {B mb base : Nat} {w W w4 : World} {p : Nat} {most : Int} {L : List Ent} {bt g0 g n cap b : Nat} {v0 v' : Value} {out t : List Int} (h : SpW B mb base w W p most L bt v0 (.slice (some ⟨g, 0, none⟩) n cap) out) (hB : B ≤ base) (hbt : B ≤ bt) (hs : Sc W g0 b t) (hbo : ∀ j (hj : j < t.length), (out ++ t)[b + j]? = some t[j])
    (hO : w4.ownsRow base 5 1 v' (out ++ t).length ((out ++ t).flatMap byz)) (hg : W.grownBy w4 (some g)) (hat : v'.ownBlock = some g ∨ (v'.ownBlock = some W.heap.size ∧ W.grownBy w4 none)) :
    w4.heap[bt]? = some (Obj.cells #[.slice (some ⟨g, 0, none⟩) n cap] 41 (0, 0)) ∧ SpW B mb base w (w4.setCell ⟨bt, 0, none⟩ v') p most L bt v0 v' (out ++ t) ∧ Sc (w4.setCell ⟨bt, 0, none⟩ v') g0 b t := by
 obtain ⟨b4, h2, _⟩ := h.push hB hbt hO (Fr0.refl W) hg (fun k hk => by
  rcases hat with e | ⟨e, _⟩
  · exact .inl (e.symm.trans hk)
  · exact .inr (by have := Option.some.inj (e.symm.trans hk); omega))
 refine ⟨b4, h2, ?_⟩
 have s4 : Sc w4 g0 b t := by
  obtain ⟨cur, hc⟩ := hs.blk
  have hlt := lt_of_block hc
  by_cases c : g0 = g
  · rcases hat with e | ⟨_, e⟩
    · subst c
      obtain ⟨va, vc, hv⟩ := owns_form hO
      subst hv
      obtain ⟨cc, hcc⟩ : ∃ cc, va = some ⟨g0, 0, none⟩ ∧ cc = vc := by
       rcases hO.2 with ⟨e2, _⟩ | ⟨g', cap', cur', e2, _⟩
       · rw [e2] at e; cases e
       · cases e2
         have : g' = g0 := Option.some.inj e
         exact ⟨vc, by rw [this], rfl⟩
      obtain ⟨rfl, _⟩ := hcc
      exact owns_sc hO hbo
    · have hb := e.block g0 hlt (by simp)
      refine ⟨fun j hj => ?_, cur, by rw [hb]; exact hc⟩
      rw [World.cell?_of_block (w := W) hb]; exact hs.cell j hj
  · have hb := hg.block g0 hlt (by simpa using c)
    refine ⟨fun j hj => ?_, cur, by rw [hb]; exact hc⟩
    rw [World.cell?_of_block (w := W) hb]; exact hs.cell j hj
 have F5 : Fr (fun k => k = bt) w4 (w4.setCell ⟨bt, 0, none⟩ v') := fr_set1 (Fr.refl _ w4) 0 v'
 obtain ⟨cur, hc⟩ := s4.blk
 exact s4.kept F5 (fun e => ne_of_types hc b4 (by decide) e)
set_option maxRecDepth 100000 in
set_option maxHeartbeats 4000000 in
theorem ac_visit {B mb base : Nat} {w : World} {p bt sb : Nat} {most : Int} {L : List Ent} {v : Value} {out : List Int} (hS : Sto B w p mb most L) (hSO : SOk L) (hD : DOk L) (hU : Uq L) (hT : Tx base w bt v out) (hsb : w.heap[sb]? = some (Obj.cells #[.pointer (some ⟨p, 0, none⟩)] 25 (0, 0))) (hB : B ≤ base) (hbt : B ≤ bt) (hb : base ≤ w.heap.size) (x : Int) (hk : isKnown L x) (h0 : x ≠ 0) (hl : (txt L x).length ≤ 1000) (k : Nat) (hk1 : 1 ≤ k) (hk2 : k ≤ 1000) (ho : out.length ≤ 100000) :
    Calls Tryz.prog 80 #[.int .i64 x, .int .i64 k, .pointer (some ⟨bt, 0, none⟩), .pointer (some ⟨sb, 0, none⟩)] w (SlPost B mb base w p most L bt v (out ++ reps (txt L x) k)) := by
 have C := Lib.hid (ac_spell hS hSO hD hU hT hB hbt hb x hk h0 hl ho)
 have hp := txt_pos hSO hD hk h0
 obtain ⟨va, vc, rfl⟩ := owns_form hT.row
 obtain ⟨t0, tf, lt⟩ := cells1t hT.box
 obtain ⟨s0, sf, ls⟩ := cells1t hsb
 obtain ⟨t, ht⟩ : ∃ t, txt L x = t := ⟨_, rfl⟩
 rw [ht] at C hp hl ⊢
 have hne : out ++ t ≠ [] := fun e => by rw [List.append_eq_nil_iff] at e; rw [e.2] at hp; simp at hp
 have hlen : (out ++ t).length = out.length + t.length := List.length_append
 have qk : IntKind.i64.wrap ((k : Int) - 1) = ((k - 1 : Nat) : Int) := by rw [show (k : Int) - 1 = ((k - 1 : Nat) : Int) by omega]; exact wrapI (by omega) (by omega)
 obtain ⟨k1, hkk⟩ : ∃ k1, k - 1 = k1 := ⟨_, rfl⟩
 have HKK := Lib.hid hkk
 rw [hkk] at qk
 have hbs := Lib.hid hb
 have HPO := Lib.hid hp
 have HLT := Lib.hid hl
 have HLO := Lib.hid ho
 have HK2 := Lib.hid hk2
 have HK1 := Lib.hid hk1
 clear hS hT hsb hk hkk hk1 hb
 go_enter Tryz.func80, Tryz.ntmps80
 go_wp2_with fail
 refine C.out.mono ?_
 rintro e w1 ⟨v1, rfl, h1⟩
 obtain ⟨g0, cap, rfl, hc⟩ := h1.front hne
 have H1 := Lib.hid h1
 clear t0 tf lt s0 sf ls C
 obtain ⟨t0, tf, lt⟩ := cells1t h1.tx.box
 have HSC : Hid (Sc w1 g0 out.length t) := Lib.hid (owns_sc h1.tx.row (fun j hj => by rw [List.getElem?_append_right (by omega), show out.length + j - out.length = j by omega, List.getElem?_eq_getElem hj]))
 have q1 : (0 : Int) ≤ (out.length : Int) := by omega
 have q2 : (out.length : Int) ≤ ((out ++ t).length : Int) := by omega
 have q3 : ((out ++ t).length : Int) ≤ (cap : Int) := by omega
 have q4 : ¬ cap = out.length := by omega
 have q5 : ¬ (out ++ t).length = out.length := by omega
 clear h1 hne
 go_wp2_with fail
 go_loopg [23] k1 (fun gk u wr => ∃ (j : Nat) (v2 : Value), u = .int .i64 j ∧ j + gk = k1 ∧ SpW B mb base w wr p most L bt (.slice va out.length vc) v2 (out ++ reps t (j + 1)) ∧ Sc wr g0 out.length t)
 case atStart => exact ⟨0, _, rfl, by omega, by rw [reps_one]; exact H1.out, HSC.out⟩
 case round =>
  clear H1 HSC t0 tf lt
  obtain ⟨j, v2, rfl, hj, hW, hS⟩ := hrel
  have HW := Lib.hid hW
  have HS := Lib.hid hS
  clear hW hS
  by_cases hlt : j < k1
  · have z1 : decide ((j : Int) < (k1 : Int)) = true := decide_eq_true (by omega)
    have hjb : j < 1000 := by have := HK2.out; have := HKK.out; omega
    have HGK : Hid ((j + 1) + (gk - 1) = k1 ∧ gk - 1 < gk) := ⟨by omega, by omega⟩
    obtain ⟨g, gc, rfl, hgc⟩ := HW.out.front (by intro e; rw [List.append_eq_nil_iff] at e; rw [reps_succ, List.append_eq_nil_iff] at e; have := HPO.out; rw [e.2.1] at this; simp at this)
    obtain ⟨t0, tf, lt⟩ := cells1t HW.out.tx.box
    obtain ⟨n2, hn2⟩ : ∃ n2, (out ++ reps t (j + 1)).length = n2 := ⟨_, rfl⟩
    have hn2b : n2 + t.length ≤ 10000000 := by
     rw [← hn2, List.length_append, reps_len]
     have h3 := HLT.out
     have h4 := HLO.out
     have h5 : (j + 1) * t.length ≤ 1000 * 1000 := Nat.mul_le_mul (by have := HK2.out; have := HKK.out; omega) h3
     omega
    have hrow := HW.out.tx.row
    rw [hn2] at hrow
    have HROW := Lib.hid hrow
    have hbw : base ≤ wr.heap.size := Nat.le_trans hbs.out HW.out.fr.size
    have HN2 := Lib.hid hn2
    rw [hn2] at t0
    clear hn2 hrow hgc
    go_wp2_with (at_builtin; go_must (refine wpList_append_keep rt_byte3 rfl _ _ rfl base g n2 gc _ rfl HROW.out ⟨g0, out.length, none⟩ t.length _ (t.flatMap byz) rfl (by rw [byz_len, Nat.mul_one]) HS.out.src (byz_one t) (by unfold maxLen; omega) (by omega) hbw ?_; intro v4 w4 hO4 hg4 hat4; obtain ⟨za, zc, rfl⟩ := owns_form hO4; have hO5 : w4.ownsRow base 5 1 (.slice za (n2 + t.length) zc) (out ++ reps t (j + 1) ++ t).length ((out ++ reps t (j + 1) ++ t).flatMap byz) := (by rw [List.length_append, HN2.out, List.flatMap_append]; exact hO4); obtain ⟨b4, hw5, hs5⟩ := HW.out.copy hB hbt HS.out (fun i hi => by rw [List.append_assoc, ← reps_snoc]; exact reps_get t out (j + 1) i hi) hO5 hg4 hat4; have HW5 := Lib.hid hw5; have HS5 := Lib.hid hs5; clear t0 tf lt hO4 hO5 hg4 hat4 hw5 hs5 HROW; obtain ⟨t0, tf, lt⟩ := cells1t b4; clear b4))
    go_wp2_with fail
    go_roundg (gk - 1)
    case measure => exact HGK.out.2
    case rel => exact ⟨j + 1, _, by go_num, HGK.out.1, by have := HW5.out; rwa [List.append_assoc, ← reps_snoc] at this, HS5.out⟩
  · have z1 : decide ((j : Int) < (k1 : Int)) = false := decide_eq_false (by omega)
    obtain rfl : j = k1 := by omega
    go_wp2_with fail
    go_ret
    refine ⟨v2, rfl, ?_⟩
    have := HW.out
    rwa [show j + 1 = k by have := HKK.out; have := HK1.out; omega] at this
theorem SpW.trans {B mb base : Nat} {w W W' : World} {p : Nat} {most : Int} {L : List Ent} {bt : Nat} {v0 v v' : Value} {out out' : List Int} (h : SpW B mb base w W p most L bt v0 v out) (g : SpW B mb base W W' p most L bt v v' out') : SpW B mb base w W' p most L bt v0 v' out' :=
 ⟨g.st, g.tx, h.fr.trans g.fr (fun k hk hlt => by
  rcases hk with e | e
  · exact .inl e
  · rcases h.own k e with e2 | e2
    · exact .inr e2
    · omega), fun k hk => by
  have hs := h.fr.size
  rcases g.own k hk with e | e
  · exact h.own k e
  · exact .inr (by omega)⟩
theorem SpW.farS {B mb base : Nat} {w W W' : World} {p : Nat} {most : Int} {L : List Ent} {bt : Nat} {v0 v z : Value} {out : List Int} {td : List Sp} (h : SpW B mb base w W p most L bt v0 v out) (hB : B ≤ w.heap.size) (hz : W.ownsRow w.heap.size 177 4 z td.length (td.flatMap spZ)) (f : Fr (fun k => z.ownBlock = some k) W W') : SpW B mb base w W' p most L bt v0 v out := by
 have hblk : ∀ k, z.ownBlock = some k → w.heap.size ≤ k ∧ ∃ cur, W.heap[k]? = some (Obj.cells cur 177 (0, 0)) := fun k hk => by
  obtain ⟨cur, hc⟩ := owns_block hz hk
  exact ⟨(World.ownsRow.lt hz k hk).1, cur, hc⟩
 refine ⟨h.st.keptO ((Ko.refl B W).fr f (fun k hk => by
  obtain ⟨h1, cur, h2⟩ := hblk k hk
  exact ⟨by omega, _, _, _, h2, by decide⟩)), ⟨f.kept h.tx.box (fun e => ?_), f.owns h.tx.row (fun k hk e => ?_)⟩, h.fr.trans f (fun k hk hlt => ?_), h.own⟩
 · obtain ⟨_, cur, h2⟩ := hblk _ e
   exact ne_of_types h2 h.tx.box (by decide) rfl
 · obtain ⟨_, cur, h2⟩ := hblk _ e
   obtain ⟨cur3, h3⟩ := owns_block h.tx.row hk
   rw [h2] at h3
   cases h3
 · have := (hblk k hk).1; omega
theorem mesS_two (ss : List Sp) (a b : Sp) : mesS (ss ++ [a, b]) = mesS ss + (if a.times = 0 then 1 else 1 + 4 * a.n * a.id.toNat) + (if b.times = 0 then 1 else 1 + 4 * b.n * b.id.toNat) := by
 rw [show ss ++ [a, b] = (ss ++ [a]) ++ [b] by simp, mesS_push, mesS_push]
theorem mesS_three (ss : List Sp) (a b c : Sp) : mesS (ss ++ [a, b, c]) = mesS ss + (if a.times = 0 then 1 else 1 + 4 * a.n * a.id.toNat) + (if b.times = 0 then 1 else 1 + 4 * b.n * b.id.toNat) + (if c.times = 0 then 1 else 1 + 4 * c.n * c.id.toNat) := by
 rw [show ss ++ [a, b, c] = ((ss ++ [a]) ++ [b]) ++ [c] by simp, mesS_push, mesS_push, mesS_push]
theorem mesS_room (ss : List Sp) (l id : Int) (n k f hd : Nat) (hn : 1 ≤ n) (hh : hd ≤ n) (hl : l.toNat + 1 ≤ id.toNat) :
    mesS (ss ++ [⟨l, 0, (n - hd) % k, 1⟩, ⟨l, 0, k, (n - hd) / k⟩, ⟨l, f, hd, 1⟩]) + 2 ≤ mesS ss + (1 + 4 * n * id.toNat) := by
 rw [mesS_three]
 dsimp only
 rw [if_neg (show ¬ (1 : Nat) = 0 by decide), if_neg (show ¬ (1 : Nat) = 0 by decide)]
 have hdm := Nat.div_add_mod (n - hd) k
 generalize l.toNat = a at *
 generalize id.toNat = b at *
 have h1 : 4 * n * (a + 1) ≤ 4 * n * b := Nat.mul_le_mul_left _ hl
 have h2 : 4 * n * (a + 1) = 4 * n * a + 4 * n := by rw [Nat.mul_add, Nat.mul_one]
 by_cases hq : (n - hd) / k = 0
 · rw [if_pos hq]
   rw [hq, Nat.mul_zero, Nat.zero_add] at hdm
   rw [hdm]
   have h3 : 4 * (n - hd) * a + 4 * hd * a = 4 * n * a := by rw [← Nat.add_mul, show 4 * (n - hd) + 4 * hd = 4 * n by omega]
   omega
 · rw [if_neg hq]
   have h4 : k ≤ k * ((n - hd) / k) := Nat.le_mul_of_pos_right _ (Nat.pos_of_ne_zero hq)
   have h3 : 4 * ((n - hd) % k) * a + 4 * k * a + 4 * hd * a ≤ 4 * n * a := by
    rw [← Nat.add_mul, ← Nat.add_mul]
    exact Nat.mul_le_mul_right _ (by omega)
   omega
structure GdAll (L : List Ent) (ss : List Sp) : Prop where
 ok : SAll L ss
 bd : ∀ s ∈ ss, (txt L s.id).length ≤ 1000 ∧ s.times ≤ 1000
theorem GdAll.init {L : List Ent} {ss : List Sp} {s : Sp} (h : GdAll L (ss ++ [s])) : GdAll L ss := ⟨h.ok.init, fun q hq => h.bd q (by simp [hq])⟩
theorem gd_kind {L : List Ent} (hS : SOk L) (hD : DOk L) {ss : List Sp} {s : Sp} (h : SAll L (ss ++ [s])) (hn : s.n ≠ (txt L s.id).length) (h1 : s.n ≠ 0) :
    s.id ≠ 0 ∧ ((entAt L s.id).rule.kind = 2 ∨ (entAt L s.id).rule.kind = 3) ∧ isKnown L (entAt L s.id).rule.left ∧ (txt L (entAt L s.id).rule.left).length ≤ (txt L s.id).length ∧ ((entAt L s.id).rule.kind = 2 → (txt L (entAt L s.id).rule.right).length ≤ (txt L s.id).length) ∧ 1 ≤ (txt L (entAt L s.id).rule.left).length ∧ (entAt L s.id).rule.left.toNat + 1 ≤ s.id.toNat := by
 have hs := h.last
 have hf := hs.fit
 have h0 : s.id ≠ 0 := fun e => by rw [e, txt_zero] at hf; simp at hf; omega
 have hk2 := hs.kn.2
 rcases hD.at s.id hs.kn h0 with ⟨g1, _⟩ | ⟨g1, g2, _⟩ | ⟨g1, g2, _⟩
 · rw [txt_letter hs.kn h0 g1] at hf hn
   simp at hf hn
   omega
 · have e := congrArg List.length (txt_pair hD hs.kn h0 g1)
   rw [List.length_append] at e
   have hkl : isKnown L (entAt L s.id).rule.left := ⟨by omega, by omega⟩
   exact ⟨h0, .inl g1, hkl, by omega, fun _ => by omega, txt_pos hS hD hkl (by omega), by omega⟩
 · have hkl : isKnown L (entAt L s.id).rule.left := ⟨by omega, by omega⟩
   have hp := txt_pos hS hD hkl (by omega)
   have e := congrArg List.length (txt_pow hD hs.kn h0 g1)
   rw [reps_len] at e
   refine ⟨h0, .inr g1, hkl, ?_, fun e2 => by omega, hp, by omega⟩
   have hpos : 1 ≤ (entAt L s.id).rule.times.toNat := by
    rcases Nat.eq_zero_or_pos (entAt L s.id).rule.times.toNat with z | z
    · rw [z, Nat.zero_mul] at e; omega
    · exact z
   rw [e]
   exact Nat.le_mul_of_pos_left _ hpos
theorem GdAll.pair {L : List Ent} {ss : List Sp} {s : Sp} (h : GdAll L (ss ++ [s])) {a b : Sp} (hx : SAll L (ss ++ [a, b])) (ha : (txt L a.id).length ≤ (txt L s.id).length) (hb : (txt L b.id).length ≤ (txt L s.id).length) (ta : a.times = 1) (tb : b.times = 1) : GdAll L (ss ++ [a, b]) := by
 have hs := h.bd s (by simp)
 refine ⟨hx, fun q hq => ?_⟩
 rcases List.mem_append.1 hq with e | e
 · exact h.bd q (by simp [e])
 · simp only [List.mem_cons, List.not_mem_nil, or_false] at e
   rcases e with rfl | rfl
   · exact ⟨by omega, by omega⟩
   · exact ⟨by omega, by omega⟩
theorem GdAll.one {L : List Ent} {ss : List Sp} {s : Sp} (h : GdAll L (ss ++ [s])) {a : Sp} (hx : SAll L (ss ++ [a])) (ha : (txt L a.id).length ≤ (txt L s.id).length) (ta : a.times = 1) : GdAll L (ss ++ [a]) := by
 have hs := h.bd s (by simp)
 refine ⟨hx, fun q hq => ?_⟩
 rcases List.mem_append.1 hq with e | e
 · exact h.bd q (by simp [e])
 · rw [List.mem_singleton.1 e]; exact ⟨by omega, by omega⟩
theorem GdAll.three {L : List Ent} {ss : List Sp} {s : Sp} (h : GdAll L (ss ++ [s])) {a b c : Sp} (hx : SAll L (ss ++ [a, b, c])) (ha : (txt L a.id).length ≤ (txt L s.id).length) (hb : b.id = a.id) (hc : c.id = a.id) (ta : a.times = 1) (tb : b.times ≤ 1000) (tc : c.times = 1) : GdAll L (ss ++ [a, b, c]) := by
 have hs := h.bd s (by simp)
 refine ⟨hx, fun q hq => ?_⟩
 rcases List.mem_append.1 hq with e | e
 · exact h.bd q (by simp [e])
 · simp only [List.mem_cons, List.not_mem_nil, or_false] at e
   rcases e with rfl | rfl | rfl
   · exact ⟨by omega, by omega⟩
   · rw [hb]; exact ⟨by omega, tb⟩
   · rw [hc]; exact ⟨by omega, by omega⟩
set_option maxRecDepth 100000 in
set_option maxHeartbeats 4000000 in
theorem ac_parts {B mb base : Nat} {w : World} {p bt sb : Nat} {most : Int} {L : List Ent} {v : Value} {out : List Int} (hS : Sto B w p mb most L) (hSO : SOk L) (hD : DOk L) (hU : Uq L) (hT : Tx base w bt v out) (hsb : w.heap[sb]? = some (Obj.cells #[.pointer (some ⟨p, 0, none⟩)] 25 (0, 0))) (hB : B ≤ base) (hbt : B ≤ bt) (hb : base ≤ w.heap.size) (id : Int) (hk : isKnown L id) (f n : Nat) (hfit : f + n ≤ (txt L id).length) (hl : (txt L id).length ≤ 1000) (ho : out.length ≤ 10000) (hm : 4 * n * id.toNat ≤ 4000000000) :
    Calls Tryz.prog 79 #[.pointer (some ⟨p, 0, none⟩), .int .i64 id, .int .i64 f, .int .i64 n, .func (.func 80) #[] #[.pointer (some ⟨bt, 0, none⟩), .pointer (some ⟨sb, 0, none⟩)]] w (SlPost B mb base w p most L bt v (out ++ rngT (txt L id) f n)) := by
 have hBw : B ≤ w.heap.size := Nat.le_trans hB hb
 have HW : Hid (SpW B mb base w w p most L bt v v out) := ⟨hS, hT, Fr.refl _ w, fun k hk => .inl hk⟩
 have HSB := Lib.hid hsb
 have HNS : Hid (¬ (sb = bt ∨ v.ownBlock = some sb)) := fun e => by
  rcases e with e | e
  · exact ne_of_types hsb hT.box (by decide) e
  · obtain ⟨cur, hc⟩ := owns_block hT.row e
    exact ne_of_types hc hsb (by decide) rfl
 obtain ⟨R, hR⟩ : ∃ R, out ++ rngT (txt L id) f n = R := ⟨_, rfl⟩
 rw [hR]
 have hRl : R.length ≤ 11000 := by rw [← hR, List.length_append, rngT_len hfit]; omega
 have HR0 : Hid (out ++ restS L [⟨id, f, n, 1⟩] = R) := by
  show _ = _
  rw [← hR]
  congr 1
  show reps (rngT (txt L id) f n) 1 ++ [] = _
  rw [List.append_nil, reps_one]
 have HC : Hid (GdAll L [⟨id, f, n, 1⟩]) := ⟨fun q hq => by rw [List.mem_singleton.1 hq]; exact ⟨hk, hfit, .inl rfl⟩, fun q hq => by rw [List.mem_singleton.1 hq]; exact ⟨hl, (by decide : 1 ≤ 1000)⟩⟩
 clear hS hT hk hfit hl ho hR hsb
 go_enter Tryz.func79, Tryz.ntmps79
 go_wp2_with fail
 have HRW : Hid ((w.alloc (.cells #[.int .i64 id, .int .i64 f, .int .i64 n, .int .i64 1] 177 (0, 0))).ownsRow w.heap.size 177 4 (.slice (some ⟨w.heap.size, 0, none⟩) 1 1) [(⟨id, f, n, 1⟩ : Sp)].length ([(⟨id, f, n, 1⟩ : Sp)].flatMap spZ)) := own_built w _ _ 4 1 rfl (by omega)
 have HW1 := Lib.hid (HW.out.next0 ((Fr0.refl w).alloc (.cells #[.int .i64 id, .int .i64 f, .int .i64 n, .int .i64 1] 177 (0, 0))))
 generalize w.alloc (.cells #[.int .i64 id, .int .i64 f, .int .i64 n, .int .i64 1] 177 (0, 0)) = W1 at *
 clear HW
 go_loopg [11] (mesS [⟨id, f, n, 1⟩]) (fun gk tv wr => ∃ (ss : List Sp) (v' : Value) (out' : List Int), gk = mesS ss ∧ ss.length + gk ≤ 5000000000 ∧ wr.ownsRow w.heap.size 177 4 tv ss.length (ss.flatMap spZ) ∧ GdAll L ss ∧ out' ++ restS L ss = R ∧ SpW B mb base w wr p most L bt v v' out')
 case atStart => exact ⟨[⟨id, f, n, 1⟩], v, out, rfl, (by unfold mesS; simp; omega), HRW.out, HC.out, HR0.out, HW1.out⟩
 case round =>
  clear HRW HC HR0 HW1
  obtain ⟨ss, v', out', hgk, hsl, hrow, hC, hR, hW⟩ := hrel
  rcases list_end ss with rfl | ⟨ss', s, rfl⟩
  · obtain ⟨za, zc, rfl⟩ := own_nil hrow
    have HW := Lib.hid hW
    rw [restS_nil, List.append_nil] at hR
    have HR := Lib.hid hR
    clear hrow hC hR hW
    go_wp2_with fail
    go_ret
    refine ⟨v', rfl, ?_⟩
    rw [← HR.out]
    exact HW.out
  · obtain ⟨g, gc, rfl, hbg, lg, gf, gcell, hg1, hg2⟩ := own_end hrow (spZ_len _)
    have g0 := gcell 0 _ rfl
    have g1 := gcell 1 _ rfl
    have g2 := gcell 2 _ rfl
    have g3 := gcell 3 _ rfl
    rw [Nat.add_zero] at g0
    rw [List.length_append, List.length_singleton] at hsl
    have hs := hC.ok.last
    have hnds := hC.bd s (by simp)
    have hkx := hs.kn
    have hfx := hs.fit
    have q1 : (0 : Int) ≤ (ss'.length : Int) := by omega
    have q2 : (ss'.length : Int) < (ss'.length : Int) + 1 := by omega
    have q3 : IntKind.i64.wrap ((ss'.length : Int) + 1 - 1) = (ss'.length : Int) := by rw [show (ss'.length : Int) + 1 - 1 = (ss'.length : Int) by omega]; exact wrapI (by omega) (by omega)
    have q4 : decide ((0 : Int) < (ss'.length : Int) + 1) = true := decide_eq_true (by omega)
    have q5 : (ss'.length : Int) ≤ (gc : Int) := by omega
    have hr5 := hrow
    rw [List.length_append, List.length_singleton, List.flatMap_append] at hr5
    have RP := Lib.hid (ownsRow_pop (by rw [spZ_len]) hr5)
    have HCC := Lib.hid hC
    have HR := Lib.hid hR
    have HW := Lib.hid hW
    have hml := mesS_push ss' s
    rw [← hgk] at hml
    have htb := hnds.2
    have hsx := hnds.1
    have HML := Lib.hid hml
    have hml2 : mesS ss' < gk := by split at hml <;> omega
    clear hml
    have CWT := Lib.hid (fun W (hWW : Fr0 wr W) => sto_Weight (hW.st.keptO (Ko.of0 hWW)) s.id hkx)
    have hlw := txt_len hD hSO _ s.id (Nat.le_refl _) hkx
    rw [← hlw] at CWT
    generalize (entAt L s.id).wt = wt at *
    clear hrow hr5 gcell hbg hR hW hC hs hnds hlw
    by_cases hn0 : s.n = 0
    · have z1 : ((s.n : Int) == 0) = true := by rw [hn0]; rfl
      have HE := Lib.hid (spT_none (L := L) (s := s) (.inl hn0))
      clear hn0 CWT
      go_wp2_with fail
      go_roundg (mesS ss')
      case measure => exact hml2
      case rel => exact ⟨ss', v', out', rfl, by omega, ((Fr0.refl wr).alloc _).owns RP.out, HCC.out.init, (by have := HR.out; rw [restS_push, HE.out] at this; exact this), HW.out.next0 ((Fr0.refl wr).alloc _)⟩
    · have z1 : ((s.n : Int) == 0) = false := beq_eq_false_iff_ne.2 (by omega)
      by_cases ht0 : s.times = 0
      · have z2 : ((s.times : Int) == 0) = true := by rw [ht0]; rfl
        have HE := Lib.hid (spT_none (L := L) (s := s) (.inr ht0))
        clear hn0 ht0 CWT
        go_wp2_with fail
        go_roundg (mesS ss')
        case measure => exact hml2
        case rel => exact ⟨ss', v', out', rfl, by omega, ((Fr0.refl wr).alloc _).owns RP.out, HCC.out.init, (by have := HR.out; rw [restS_push, HE.out] at this; exact this), HW.out.next0 ((Fr0.refl wr).alloc _)⟩
      have z2t : ((s.times : Int) == 0) = false := beq_eq_false_iff_ne.2 (by omega)
      have HT0 := Lib.hid ht0
      clear ht0
      have F2 : Fr0 wr (wr.alloc (.cells #[.int .i64 s.id, .int .i64 s.from_, .int .i64 s.n, .int .i64 s.times] 177 (0, 0))) := (Fr0.refl wr).alloc _
      have b2 := alloc_at wr (.cells #[.int .i64 s.id, .int .i64 s.from_, .int .i64 s.n, .int .i64 s.times] 177 (0, 0)) wr.heap.size rfl
      go_upto_region 6 with fail
      generalize wr.alloc (.cells #[.int .i64 s.id, .int .i64 s.from_, .int .i64 s.n, .int .i64 s.times] 177 (0, 0)) = W2 at *
      generalize wr.heap.size = A at *
      have C2 := Lib.hid (CWT.out _ F2)
      have HF2 := Lib.hid F2
      have HB2 := Lib.hid b2
      obtain ⟨a0, a1, a2, a3, af, la⟩ := cells4s b2
      clear g0 g1 g2 g3 gf lg F2 b2 CWT
      go_wp2_with fail
      refine C2.out.mono ?_
      rintro e w3 ⟨rfl, f3⟩
      go_upto_region 9 with fail
      have F4 : Fr0 W2 (w3.alloc (.cells #[.int .i64 (txt L s.id).length, .int .i64 wt.lines, .int .i64 wt.head, .int .i64 wt.tail, .int .u64 wt.val, .int .u64 wt.scale] 47 (0, 0))) := f3.alloc _
      have b4 := alloc_at w3 (.cells #[.int .i64 (txt L s.id).length, .int .i64 wt.lines, .int .i64 wt.head, .int .i64 wt.tail, .int .u64 wt.val, .int .u64 wt.scale] 47 (0, 0)) w3.heap.size rfl
      generalize w3.alloc (.cells #[.int .i64 (txt L s.id).length, .int .i64 wt.lines, .int .i64 wt.head, .int .i64 wt.tail, .int .u64 wt.val, .int .u64 wt.scale] 47 (0, 0)) = W4 at *
      generalize w3.heap.size = K4 at *
      have HF4 := Lib.hid (HF2.out.trans F4)
      have b5 := F4.kept HB2.out
      have HB5 := Lib.hid b5
      clear a0 a1 a2 a3 af la C2 f3 F4 HB2
      obtain ⟨a0, a1, a2, a3, af, la⟩ := cells4s b5
      obtain ⟨e0, _, _, _, _, _, le, _⟩ := cells6t b4
      clear b4 b5
      have HW4 := Lib.hid (HW.out.next0 HF4.out)
      have HR4 := Lib.hid (HF4.out.owns RP.out)
      have hw4 : w.heap.size ≤ W4.heap.size := HW4.out.fr.size
      by_cases hnl : s.n = (txt L s.id).length
      · have z2 : ((s.n : Int) == ((txt L s.id).length : Int)) = true := by rw [hnl]; simp
        have hx0 : s.id ≠ 0 := fun e => by rw [e, txt_zero] at hnl; exact hn0 hnl
        have hol : out'.length ≤ 100000 := by have := congrArg List.length HR.out; rw [List.length_append] at this; omega
        have CV := Lib.hid (ac_visit HW4.out.st hSO hD hU HW4.out.tx (HW4.out.fr.kept HSB.out HNS.out) hB hbt (Nat.le_trans hb hw4) s.id hkx hx0 hsx s.times (by have := HT0.out; omega) htb hol)
        have HE := Lib.hid (spT_all HCC.out.ok.last hnl)
        have HRK : Hid (∀ W, Fr (fun k => k = bt ∨ v'.ownBlock = some k) W4 W → W.ownsRow w.heap.size 177 4 (.slice (some ⟨g, 0, none⟩) ss'.length gc) ss'.length (ss'.flatMap spZ)) := fun W hf => hf.owns HR4.out (fun z hz e => by
         obtain ⟨cur, hc⟩ := owns_block HR4.out hz
         rcases e with e | e
         · exact ne_of_types hc HW4.out.tx.box (by decide) e
         · obtain ⟨cur3, h3⟩ := owns_block HW4.out.tx.row e
           rw [hc] at h3
           cases h3)
        clear hnl hn0
        go_wp2_with fail
        refine CV.out.mono ?_
        rintro e w6 ⟨v6, rfl, h6⟩
        have HW6 := Lib.hid (HW4.out.trans h6)
        have HR6 := Lib.hid (HRK.out _ h6.fr)
        clear h6 CV HRK
        go_wp2_with fail
        go_roundg (mesS ss')
        case measure => exact hml2
        case rel => exact ⟨ss', v6, out' ++ reps (txt L s.id) s.times, rfl, by omega, HR6.out, HCC.out.init, (by have := HR.out; rw [restS_push, HE.out] at this; rw [List.append_assoc]; exact this), HW6.out⟩
      · have z2 : ((s.n : Int) == ((txt L s.id).length : Int)) = false := beq_eq_false_iff_ne.2 (by omega)
        obtain ⟨hx0, hk23, hkl, hll1, hll2, hl1, hlid⟩ := gd_kind hSO hD HCC.out.ok hnl hn0
        have HP2 := Lib.hid (fun (h2 : (entAt L s.id).rule.kind = 2) gg hgg => pair_parts hSO hD HCC.out.ok hnl hn0 h2 gg hgg)
        have HP1 := Lib.hid (fun (h3 : (entAt L s.id).rule.kind = 3) hfit => pow_part1 hSO hD HCC.out.ok hnl hn0 h3 hfit)
        have HP3 := Lib.hid (fun (h3 : (entAt L s.id).rule.kind = 3) k f hd ek ef hfit ehd => pow_part3 hSO hD HCC.out.ok hnl hn0 h3 k f hd ek ef hfit ehd)
        have CR := Lib.hid (sto_Rule HW4.out.st s.id hkx hx0)
        have CWL := Lib.hid (fun W (hWW : Fr0 W4 W) => sto_Weight (HW4.out.st.keptO (Ko.of0 hWW)) (entAt L s.id).rule.left hkl)
        have hll := txt_len hD hSO _ (entAt L s.id).rule.left (Nat.le_refl _) hkl
        have hlb := txt_big hSO hD hkl
        rw [← hll] at CWL
        generalize (entAt L (entAt L s.id).rule.left).wt = wl at *
        obtain ⟨E, hE⟩ : ∃ E, (entAt L s.id).rule = E := ⟨_, rfl⟩
        obtain ⟨kd, le2, l, r, tm⟩ := E
        rw [hE] at CR HP2 HP1 HP3 hk23 CWL hlb hll1 hll2 hl1 hlid
        dsimp only at CR HP2 HP1 HP3 hk23 CWL hlb hll1 hll2 hl1 hlid
        obtain ⟨lf, hlf⟩ : ∃ lf, (txt L l).length = lf := ⟨_, rfl⟩
        have HLF := Lib.hid hlf
        rw [hlf] at CWL hlb hl1
        have HLL := Lib.hid hll2
        have HLL1 := Lib.hid hll1
        have HB5' := HB5
        have HNL := Lib.hid hnl
        have HN0 := Lib.hid hn0
        have HLID := Lib.hid hlid
        clear hlid
        clear hll hE hkl hlf hnl hn0 HB5 hll1 hll2
        go_wp2_with fail
        refine CR.out.mono ?_
        rintro e w5 ⟨rfl, f5⟩
        go_upto_region 16 with fail
        have F6 : Fr0 W4 (w5.alloc (.cells #[.int .i64 kd, .int .u8 le2, .int .i64 l, .int .i64 r, .int .i64 tm] 82 (0, 0))) := f5.alloc _
        have b6 := alloc_at w5 (.cells #[.int .i64 kd, .int .u8 le2, .int .i64 l, .int .i64 r, .int .i64 tm] 82 (0, 0)) w5.heap.size rfl
        generalize w5.alloc (.cells #[.int .i64 kd, .int .u8 le2, .int .i64 l, .int .i64 r, .int .i64 tm] 82 (0, 0)) = W6 at *
        generalize w5.heap.size = K6 at *
        have CWL6 := Lib.hid (CWL.out _ F6)
        have HF6 := Lib.hid F6
        have HB6 := Lib.hid b6
        have b7 := F6.kept HB5'.out
        have HB7 := Lib.hid b7
        clear a0 a1 a2 a3 af la e0 le CR CWL f5 F6
        obtain ⟨c0, c1, c2, c3, c4, lc⟩ := cells5 b6
        clear b6 b7
        go_wp2_with fail
        refine CWL6.out.mono ?_
        rintro e w7 ⟨rfl, f7⟩
        go_upto_region 19 with fail
        have F8 : Fr0 W6 (w7.alloc (.cells #[.int .i64 (lf : Nat), .int .i64 wl.lines, .int .i64 wl.head, .int .i64 wl.tail, .int .u64 wl.val, .int .u64 wl.scale] 47 (0, 0))) := f7.alloc _
        have b8 := alloc_at w7 (.cells #[.int .i64 (lf : Nat), .int .i64 wl.lines, .int .i64 wl.head, .int .i64 wl.tail, .int .u64 wl.val, .int .u64 wl.scale] 47 (0, 0)) w7.heap.size rfl
        generalize w7.alloc (.cells #[.int .i64 (lf : Nat), .int .i64 wl.lines, .int .i64 wl.head, .int .i64 wl.tail, .int .u64 wl.val, .int .u64 wl.scale] 47 (0, 0)) = W8 at *
        generalize w7.heap.size = K8 at *
        have HW8 := Lib.hid (HW4.out.next0 (HF6.out.trans F8))
        have HR8 := Lib.hid ((HF6.out.trans F8).owns HR4.out)
        have b9 := F8.kept HB6.out
        have b10 := F8.kept HB7.out
        have hw8 : w.heap.size ≤ W8.heap.size := HW8.out.fr.size
        have hfb : s.from_ + s.n ≤ 1152921504606846976 := by omega
        clear c0 c1 c2 c3 c4 lc HF6 HB6 HB7 CWL6 f7 F8 HR4 HW4
        obtain ⟨c0, c1, c2, c3, c4, lc⟩ := cells5 b9
        obtain ⟨a0, a1, a2, a3, af, la⟩ := cells4s b10
        obtain ⟨e0, _, _, _, _, _, le, _⟩ := cells6t b8
        clear b8 b9 b10
        rcases hk23 with rfl | rfl
        · obtain ⟨gg, hgg⟩ : ∃ gg, gg = min (lf - s.from_) s.n := ⟨_, rfl⟩
          have HP := HP2.out rfl gg (by rw [HLF.out]; exact hgg)
          rw [HLF.out] at HP
          have HP := Lib.hid HP
          have HN := Lib.hid (HCC.out.pair HP.out.1 (HLL.out rfl) HLL1.out rfl rfl)
          have HCH := Lib.hid (ac_halve HR8.out hw8 (by omega) 2 le2 l r tm lf s hlb hfb gg hgg)
          clear HP1 HP2 HP3 HLL HLL1 hgg HLF
          go_wp2_with fail
          refine HCH.out.mono ?_
          rintro e w9 ⟨v9, rfl, hO9, hF9, _⟩
          have HW9 := Lib.hid (HW8.out.farS hBw HR8.out hF9)
          have HO9 := Lib.hid hO9
          clear hO9 hF9 HCH
          go_wp2_with fail
          go_roundg (mesS (ss' ++ [⟨r, s.from_ - lf, s.n - gg, 1⟩, ⟨l, min s.from_ lf, gg, 1⟩]))
          case measure => have := HP.out.2.2; rw [mesS_push (ss := ss') (s := s), ← HML.out] at this; exact this
          case rel =>
           refine ⟨_, v', out', rfl, ?_, HO9.out, HN.out, (by rw [HP.out.2.1]; exact HR.out), HW9.out⟩
           have h5 := HP.out.2.2
           rw [mesS_push (ss := ss') (s := s), ← HML.out] at h5
           have h6 := mesS_two ss' ⟨r, s.from_ - lf, s.n - gg, 1⟩ ⟨l, min s.from_ lf, gg, 1⟩
           rw [List.length_append, List.length_cons, List.length_singleton]
           omega
        · by_cases hfit : s.from_ % lf + s.n ≤ lf
          · have HP := HP1.out rfl (by rw [HLF.out]; exact hfit)
            rw [HLF.out] at HP
            have HP := Lib.hid HP
            have HN := Lib.hid (HCC.out.one HP.out.1 HLL1.out rfl)
            have HCH := Lib.hid (ac_divide1 HR8.out hw8 (by omega) 3 le2 l r tm lf s hl1 hlb hfb _ rfl hfit)
            clear HP1 HP2 HP3 HLL HLL1 hfit HLF
            go_wp2_with fail
            refine HCH.out.mono ?_
            rintro e w9 ⟨v9, rfl, hO9, hF9, _⟩
            have HW9 := Lib.hid (HW8.out.farS hBw HR8.out hF9)
            have HO9 := Lib.hid hO9
            clear hO9 hF9 HCH
            go_wp2_with fail
            go_roundg (mesS (ss' ++ [⟨l, s.from_ % lf, s.n, 1⟩]))
            case measure => have := HP.out.2.2; rw [mesS_push (ss := ss') (s := s), ← HML.out] at this; exact this
            case rel =>
             refine ⟨_, v', out', rfl, ?_, HO9.out, HN.out, (by rw [HP.out.2.1]; exact HR.out), HW9.out⟩
             have h5 := HP.out.2.2
             rw [mesS_push (ss := ss') (s := s), ← HML.out] at h5
             rw [List.length_append, List.length_singleton]
             omega
          · obtain ⟨f2, ef2⟩ : ∃ f2, f2 = s.from_ % lf := ⟨_, rfl⟩
            obtain ⟨hd, ehd⟩ : ∃ hd, hd = (lf - f2) % lf := ⟨_, rfl⟩
            rw [← ef2] at hfit
            have HP := HP3.out rfl lf f2 hd HLF.out.symm ef2 (by omega) ehd
            have HP := Lib.hid HP
            have hq : (s.n - hd) / lf ≤ 1000 := Nat.le_trans (Nat.div_le_self _ _) (by omega)
            have HN := Lib.hid (HCC.out.three HP.out.1 HLL1.out rfl rfl rfl hq rfl)
            have HCH := Lib.hid (ac_divide3 HR8.out hw8 (by omega) 3 le2 l r tm lf s hl1 hlb hfb f2 hd ef2 (by omega) ehd HP.out.2.2.2.1)
            clear HP1 HP2 HP3 HLL HLL1 hfit HLF ef2 ehd hq
            have HRM := Lib.hid (mesS_room ss' l s.id s.n lf f2 hd (by have := HN0.out; omega) HP.out.2.2.2.1 HLID.out)
            generalize (s.n - hd) % lf = n1 at *
            generalize (s.n - hd) / lf = q1' at *
            go_wp2_with fail
            refine HCH.out.mono ?_
            rintro e w9 ⟨v9, rfl, hO9, hF9, _⟩
            have HW9 := Lib.hid (HW8.out.farS hBw HR8.out hF9)
            have HO9 := Lib.hid hO9
            clear hO9 hF9 HCH
            go_wp2_with fail
            go_roundg (mesS (ss' ++ [⟨l, 0, n1, 1⟩, ⟨l, 0, lf, q1'⟩, ⟨l, f2, hd, 1⟩]))
            case measure => have := HP.out.2.2.1; rw [mesS_push (ss := ss') (s := s), ← HML.out] at this; exact this
            case rel =>
             refine ⟨_, v', out', rfl, ?_, HO9.out, HN.out, (by rw [HP.out.2.1]; exact HR.out), HW9.out⟩
             have h5 := HRM.out
             have h6 := HML.out
             rw [if_neg HT0.out] at h6
             rw [List.length_append, List.length_cons, List.length_cons, List.length_singleton]
             omega
end Go.Proofs.YtgldjpldldknoaaGreatDoor

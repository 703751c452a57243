/- The walk of ref20.Keys: the keys and levels of all rules of a store. -/
import Derived.Test.YtodmpcnpedpheaaGreatDoorQKw5
import Derived.Test.YtodmpcnpedpheaaGreatDoorQKw3
import Derived.Test.YtodmpcnpedpheaaGreatDoorQSpl1
import Derived.Deep.CutBlock
import Derived.BigRegion
set_option linter.unusedSimpArgs false
set_option linter.unusedVariables false
namespace Go.Proofs.YtodmpcnpedpheaaGreatDoor
open Go.RowKit

/-- The key and the level of an ID, as the reference has them. -/
def kyP (L : List Ent) (i : Nat) : Int × Int := if i = 0 then (0, 0) else (kkey L i, klev L i)
def kyL (L : List Ent) (n : Nat) : List (Int × Int) := (List.range n).map (kyP L)
def kyv (p : Int × Int) : List Value := [.int .u64 p.1, .int .i64 p.2]
theorem kyL_len (L : List Ent) (n : Nat) : (kyL L n).length = n := by simp [kyL]
theorem kyL_succ (L : List Ent) (n : Nat) : kyL L (n + 1) = kyL L n ++ [kyP L n] := by simp [kyL, List.range_succ]
theorem kyL_at (L : List Ent) {n i : Nat} (h : i < (kyL L n).length) : (kyL L n)[i] = kyP L i := by simp [kyL]

theorem kyP_rng {L : List Ent} (hD : DOk L) {i : Nat} (hi : i ≤ L.length) : 0 ≤ (kyP L i).1 ∧ (kyP L i).1 < 2305843009213693951 ∧ -1 ≤ (kyP L i).2 ∧ (kyP L i).2 ≤ 493 * (i : Int) := by
  unfold kyP
  split
  · rename_i h; subst h; exact ⟨by decide, by decide, by decide, by decide⟩
  · rename_i h
    have hk : isKnown L (i : Int) := ⟨by omega, by omega⟩
    have h1 := kkey_rng hD hk (by omega)
    have h2 := klev_rng hD _ (i : Int) (Nat.le_refl _) hk (by omega)
    exact ⟨h1.1, h1.2, h2.1, h2.2⟩

/-- A rule's key and level by its parts. -/
theorem key_rule {L : List Ent} (hD : DOk L) (hO : SOk L) (hU : Uq L) (k : Nat) (hk : k < L.length) :
    ∃ (i j : Nat), L[k].rule.left = (i : Int) ∧ L[k].rule.right = (j : Int) ∧ i ≤ k ∧ j ≤ k ∧ 1 ≤ L[k].rule.kind ∧ L[k].rule.kind ≤ 3 ∧ 0 ≤ L[k].rule.letter ∧ L[k].rule.letter < 256 ∧ 0 ≤ L[k].rule.times ∧ L[k].rule.times < 2305843009213693952 ∧
      kyP L (k + 1) = cmpR L[k].rule.kind L[k].rule.letter i j L[k].rule.times (kyP L i).1 (kyP L i).2 (kyP L j).1 (kyP L j).2 := by
  have e := entAt_succ L k hk
  have hkn : isKnown L ((k : Int) + 1) := ⟨by omega, by omega⟩
  have eP : kyP L (k + 1) = (kkey L ((k : Int) + 1), klev L ((k : Int) + 1)) := by
    unfold kyP; rw [if_neg (by omega), show ((k + 1 : Nat) : Int) = (k : Int) + 1 by omega]
  rcases hD k hk with ⟨h1, h2⟩ | ⟨h1, ⟨a, b, c, d⟩, h2⟩ | ⟨h1, ⟨a, b⟩, h2⟩
  · have hl := hU.ltr _ hkn (by omega) (by rw [e]; exact h1)
    rw [e] at hl
    have hk1 := kl_letter (L := L) (id := (k : Int) + 1) (by omega) (by rw [e]; exact h1)
    rw [e] at hk1
    refine ⟨0, 0, by rw [h2]; rfl, by rw [h2]; rfl, by omega, by omega, by omega, by omega, hl.1, hl.2, ?_, ?_, ?_⟩
    · rw [h2]; exact Int.le_refl _
    · rw [h2]; show (0 : Int) < _; decide
    · rw [eP, hk1.1, hk1.2]; unfold cmpR; rw [if_pos h1]
  · have hk1 := kl_pair hD hkn (by omega) (by rw [e]; exact h1)
    rw [e] at hk1
    have pl : ∀ x : Int, 1 ≤ x → kyP L x.toNat = (kkey L x, klev L x) := fun x hx => by
      unfold kyP; rw [if_neg (by omega), show ((x.toNat : Nat) : Int) = x by omega]
    refine ⟨L[k].rule.left.toNat, L[k].rule.right.toNat, by omega, by omega, by omega, by omega, by omega, by omega, ?_, ?_, ?_, ?_, ?_⟩
    · rw [h2]; exact Int.le_refl _
    · rw [h2]; show (0 : Int) < _; decide
    · rw [h2]; exact Int.le_refl _
    · rw [h2]; show (0 : Int) < _; decide
    · rw [eP, hk1.1, hk1.2, pl _ a, pl _ c, show ((L[k].rule.left.toNat : Nat) : Int) = L[k].rule.left by omega, show ((L[k].rule.right.toNat : Nat) : Int) = L[k].rule.right by omega]
      unfold cmpR; rw [if_neg (show ¬ L[k].rule.kind = 1 by omega), if_pos h1]
  · have hr : L[k].rule.right = 0 := by rw [h2]; rfl
    have hk1 := kl_power hD hkn (by omega) (by rw [e]; exact h1)
    rw [e] at hk1
    have ht := hU.pow _ hkn (by omega) (by rw [e]; exact h1)
    rw [e] at ht
    have hw := (hO k hk).1.len1
    have hwl : L[k].wt.len = (entAt L L[k].rule.left).wt.len * L[k].rule.times := by
      have := congrArg (fun x => x.wt.len) h2
      exact this
    have hl1 := ((hO.at L[k].rule.left ⟨by omega, by omega⟩).2.2.2 (by omega)).1
    have hle : L[k].rule.times ≤ L[k].wt.len := by
      rw [hwl]
      have := Int.mul_le_mul_of_nonneg_right hl1 (show 0 ≤ L[k].rule.times by omega)
      omega
    have pl : ∀ x : Int, 1 ≤ x → kyP L x.toNat = (kkey L x, klev L x) := fun x hx => by
      unfold kyP; rw [if_neg (by omega), show ((x.toNat : Nat) : Int) = x by omega]
    refine ⟨L[k].rule.left.toNat, 0, by omega, hr, by omega, by omega, by omega, by omega, ?_, ?_, by omega, by omega, ?_⟩
    · rw [h2]; exact Int.le_refl _
    · rw [h2]; show (0 : Int) < _; decide
    · rw [eP, hk1.1, hk1.2, pl _ a, show ((L[k].rule.left.toNat : Nat) : Int) = L[k].rule.left by omega]
      unfold cmpR; rw [if_neg (show ¬ L[k].rule.kind = 1 by omega), if_neg (show ¬ L[k].rule.kind = 2 by omega)]

theorem info_key : (Tryz.prog.info? 47).map (fun i => (i.zero, i.size, i.bytes)) = some (some (.agg #[.int .u64 0, .int .i64 0]), 2, 16) := by kernel_rfl
theorem rt_key : RT 39 47 2 16 := by
  obtain ⟨i, h1, h2, h3, h4⟩ := info_parts info_key
  exact ⟨by omega, i, _, Tryz.underlying39, h1, h2, h3, h4, rfl⟩

theorem r20_AfterI (low x y : Int) (h0 : 0 ≤ low) (h1 : low ≤ 1000000000) (hx : 0 ≤ x ∧ x < 2305843009213693951) (hy : 0 ≤ y ∧ y < 2305843009213693951) (w : World) :
    Calls Tryz.prog 32 #[.int .i64 low, .int .u64 x, .int .u64 y] w fun e w' => e = .returned (.int .i64 (aftI low x y)) ∧ Fr0 w w' := by
  obtain ⟨p, rfl⟩ := Int.eq_ofNat_of_zero_le hx.1
  obtain ⟨q, rfl⟩ := Int.eq_ofNat_of_zero_le hy.1
  exact r20_After low p q h0 h1 (by omega) (by omega) w

def rlq (e : Ent) : List Value := e.rule.vals

/-- The zero entry: what element 0 of the rules holds. -/
def ez : Ent := ⟨⟨0, 0, 0, 0, 0⟩, Wt.unit, 0, true⟩

/-- The state of Keys' loop. -/
structure KkR (w wr : World) (L : List Ent) (k : Nat) (v : Value) : Prop where
  fr : Fr0 w wr
  own : wr.ownsRow w.heap.size 47 2 v (kyL L (k + 1)).length ((kyL L (k + 1)).flatMap kyv)

/-- Behind the two copies. -/
structure Cq2 (w wx : World) (E P6 P7 : Nat) (kd letter l r times a la b lb : Int) : Prop where
  fr : Fr0 w wx
  b6 : wx.heap[P6]? = some (.cells #[.int .u64 a, .int .i64 la] 47 (0, 0))
  b7 : wx.heap[P7]? = some (.cells #[.int .u64 b, .int .i64 lb] 47 (0, 0))
  be : wx.heap[E]? = some (.cells #[.int .i64 kd, .int .u8 letter, .int .i64 l, .int .i64 r, .int .i64 times] 42 (0, 0))

theorem Cq2.kept0 {w wx wy : World} {E P6 P7 : Nat} {kd letter l r times a la b lb : Int} (h : Cq2 w wx E P6 P7 kd letter l r times a la b lb) (hf : Fr0 wx wy) : Cq2 w wy E P6 P7 kd letter l r times a la b lb :=
  ⟨h.fr.trans hf, hf.kept h.b6, hf.kept h.b7, hf.kept h.be⟩

/-- In the switch: the copies and the key that is being made. -/
structure Kq (wr W : World) (E P6 P7 P8 : Nat) (kd letter l r times a la b lb : Int) (u0 u1 : Value) : Prop where
  q : Cq2 wr W E P6 P7 kd letter l r times a la b lb
  b8 : W.heap[P8]? = some (.cells #[u0, u1] 47 (0, 0))
  h8 : wr.heap.size ≤ P8
  n6 : P6 ≠ P8
  n7 : P7 ≠ P8
  ne : E ≠ P8

theorem Kq.kept0 {wr W W' : World} {E P6 P7 P8 : Nat} {kd letter l r times a la b lb : Int} {u0 u1 : Value} (h : Kq wr W E P6 P7 P8 kd letter l r times a la b lb u0 u1) (hf : Fr0 W W') : Kq wr W' E P6 P7 P8 kd letter l r times a la b lb u0 u1 :=
  ⟨h.q.kept0 hf, hf.kept h.b8, h.h8, h.n6, h.n7, h.ne⟩
theorem Kq.set0 {wr W : World} {E P6 P7 P8 : Nat} {kd letter l r times a la b lb : Int} {u0 u1 : Value} (h : Kq wr W E P6 P7 P8 kd letter l r times a la b lb u0 u1) (v : Value) : Kq wr (W.setCell ⟨P8, 0, none⟩ v) E P6 P7 P8 kd letter l r times a la b lb v u1 :=
  ⟨⟨h.q.fr.setCell _ _ h.h8, (setCell_other ⟨P8, 0, none⟩ _ h.n6).trans h.q.b6, (setCell_other ⟨P8, 0, none⟩ _ h.n7).trans h.q.b7, (setCell_other ⟨P8, 0, none⟩ _ h.ne).trans h.q.be⟩, by rw [setCell_block h.b8]; rfl, h.h8, h.n6, h.n7, h.ne⟩
theorem Kq.set1 {wr W : World} {E P6 P7 P8 : Nat} {kd letter l r times a la b lb : Int} {u0 u1 : Value} (h : Kq wr W E P6 P7 P8 kd letter l r times a la b lb u0 u1) (v : Value) : Kq wr (W.setCell ⟨P8, 1, none⟩ v) E P6 P7 P8 kd letter l r times a la b lb u0 v :=
  ⟨⟨h.q.fr.setCell _ _ h.h8, (setCell_other ⟨P8, 1, none⟩ _ h.n6).trans h.q.b6, (setCell_other ⟨P8, 1, none⟩ _ h.n7).trans h.q.b7, (setCell_other ⟨P8, 1, none⟩ _ h.ne).trans h.q.be⟩, by rw [setCell_block h.b8]; rfl, h.h8, h.n6, h.n7, h.ne⟩
theorem Kq.cells {wr W : World} {E P6 P7 P8 : Nat} {kd letter l r times a la b lb : Int} {u0 u1 : Value} (h : Kq wr W E P6 P7 P8 kd letter l r times a la b lb u0 u1) :
    (W.cell? ⟨P6, 0, none⟩ = some (.int .u64 a) ∧ W.cell? ⟨P6, 1, none⟩ = some (.int .i64 la)) ∧ (W.cell? ⟨P7, 0, none⟩ = some (.int .u64 b) ∧ W.cell? ⟨P7, 1, none⟩ = some (.int .i64 lb)) ∧
    (W.cell? ⟨E, 0, none⟩ = some (.int .i64 kd) ∧ W.cell? ⟨E, 1, none⟩ = some (.int .u8 letter) ∧ W.cell? ⟨E, 2, none⟩ = some (.int .i64 l) ∧ W.cell? ⟨E, 3, none⟩ = some (.int .i64 r) ∧ W.cell? ⟨E, 4, none⟩ = some (.int .i64 times)) ∧
    W.cell? ⟨P8, 0, none⟩ = some u0 ∧ W.cell? ⟨P8, 1, none⟩ = some u1 ∧ (∀ o, W.frozen? ⟨P8, o, none⟩ = false) := by
  refine ⟨⟨by rw [cell_of_block h.q.b6]; rfl, by rw [cell_of_block h.q.b6]; rfl⟩, ⟨by rw [cell_of_block h.q.b7]; rfl, by rw [cell_of_block h.q.b7]; rfl⟩, ⟨by rw [cell_of_block h.q.be]; rfl, by rw [cell_of_block h.q.be]; rfl, by rw [cell_of_block h.q.be]; rfl, by rw [cell_of_block h.q.be]; rfl, by rw [cell_of_block h.q.be]; rfl⟩, by rw [cell_of_block h.b8]; rfl, by rw [cell_of_block h.b8]; rfl, fun o => frozen_of_block h.b8 o⟩

theorem cmp_pair {p : Int × Int} {q : Int × Int} (h : p = q) : (q.1, q.2) = p := h.symm

set_option maxRecDepth 100000 in
set_option maxHeartbeats 8000000 in
theorem r20_Keys {w : World} {a : Option Addr} {cap : Nat} {L : List Ent} (hR : RG rlq 5 0 w a (ez :: L)) (hD : DOk L) (hO : SOk L) (hU : Uq L) (hl : L.length ≤ 1000) :
    Calls Tryz.prog 10 #[.slice a (L.length + 1) cap] w fun e w' => ∃ v, e = .returned v ∧ Fr0 w w' ∧ w'.ownsRow w.heap.size 47 2 v (L.length + 1) ((kyL L (L.length + 1)).flatMap kyv) := by
  have HR := Lib.hid hR
  have HK := Lib.hid (key_rule hD hO hU)
  have HG := Lib.hid (fun (i : Nat) (hi : i ≤ L.length) => kyP_rng hD hi)
  clear hR hD hO hU
  have H0 : Hid (KkR w (w.alloc (.cells #[.int .u64 0, .int .i64 0] 47 (0, 0))) L 0 (.slice (some ⟨w.heap.size, 0, none⟩) 1 1)) :=
    ⟨(Fr0.refl w).alloc _, ⟨rfl, .inr ⟨w.heap.size, 1, #[.int .u64 0, .int .i64 0], rfl, by omega, alloc_at w _ _ rfl, Nat.le_refl _, by unfold maxLen; omega, rfl, rfl⟩⟩⟩
  obtain ⟨n1, hn1⟩ : ∃ n1, L.length + 1 = n1 := ⟨_, rfl⟩
  have HN1 := Lib.hid hn1
  rw [hn1]
  clear hn1
  go_enter Tryz.func10, Tryz.ntmps10
  go_wp2_with fail
  go_loopw [3, 4] (fun v i wr => ∃ (k : Nat), k ≤ L.length ∧ i = .int .i64 ((k : Int) + 1) ∧ KkR w wr L k v) (fun _ i _ => L.length + 1 - (intOf i).toNat)
  case atStart => exact ⟨0, Nat.zero_le _, rfl, H0.out⟩
  case round =>
    clear H0
    obtain ⟨k, hk, rfl, hr⟩ := hrel
    have hln := kyL_len L (k + 1)
    by_cases hlt : k < L.length
    · obtain ⟨b, off, rfl, lb, _, hc⟩ := (HR.out.kept0 hr.fr) (k + 1) (by simp; omega)
      simp only [List.getElem_cons_succ] at hc
      obtain ⟨ca, ccap, rfl, hrg⟩ := rg_of_own (vals := kyv) (size := 2) (B := 0) (w := wr) (fun _ _ => rfl) hr.own (by decide) (by decide)
      obtain ⟨i, j, e1, e2, hi, hj, hd1, hd3, hl0, hl1, ht0, ht1, hkey⟩ := HK.out k hlt
      have c0 := hc 0 _ rfl
      have c1 := hc 1 _ rfl
      have c2 := hc 2 _ rfl
      have c3 := hc 3 _ rfl
      have c4 := hc 4 _ rfl
      rw [Nat.add_zero] at c0
      rw [e1] at c2
      rw [e2] at c3
      obtain ⟨ib, ioff, hca, ilb, _, ic⟩ := hrg i (by omega)
      obtain ⟨jb, joff, hcb, jlb, _, jc⟩ := hrg j (by omega)
      subst hca
      cases hcb
      rw [kyL_at] at ic jc
      have di0 := ic 0 _ rfl
      have di1 := ic 1 _ rfl
      have dj0 := jc 0 _ rfl
      have dj1 := jc 1 _ rfl
      obtain ⟨ra1, ra2, ra3, ra4⟩ := HG.out i (by omega)
      obtain ⟨rb1, rb2, rb3, rb4⟩ := HG.out j (by omega)
      rw [Nat.add_zero] at di0 dj0
      have HKEY := Lib.hid hkey
      have HRR := Lib.hid hr
      clear hc hr hrg hkey ic jc
      generalize (kyP L i).1 = xa at *
      generalize (kyP L i).2 = la at *
      generalize (kyP L j).1 = xb at *
      generalize (kyP L j).2 = lb2 at *
      generalize L[k].rule.kind = kd at *
      generalize L[k].rule.letter = lt at *
      generalize L[k].rule.times = tm at *
      have q0 : (0 : Int) ≤ (k : Int) + 1 := by omega
      have q1 : (k : Int) + 1 < (n1 : Int) := by have := HN1.out; omega
      have q2 : decide ((k : Int) + 1 < (n1 : Int)) = true := decide_eq_true q1
      have p0 : (0 : Int) ≤ (i : Int) := by omega
      have p1 : (i : Int) < ((kyL L (k + 1)).length : Int) := by omega
      have p2 : (0 : Int) ≤ (j : Int) := by omega
      have p3 : (j : Int) < ((kyL L (k + 1)).length : Int) := by omega
      have hnat : ((k : Int) + 1).toNat = k + 1 := by omega
      have hlen6 : (kyL L (k + 1)).length ≤ 1000000 := by omega
      clear hln e1 e2
      go_upto_region 6 with fail
      have F0 : Fr0 wr (wr.alloc (.cells #[.int .i64 kd, .int .u8 lt, .int .i64 i, .int .i64 j, .int .i64 tm] 42 (0, 0))) := (Fr0.refl wr).alloc _
      have b0 := alloc_at wr (.cells #[.int .i64 kd, .int .u8 lt, .int .i64 i, .int .i64 j, .int .i64 tm] 42 (0, 0)) wr.heap.size rfl
      generalize wr.alloc (.cells #[.int .i64 kd, .int .u8 lt, .int .i64 i, .int .i64 j, .int .i64 tm] 42 (0, 0)) = W0 at *
      obtain ⟨E, hE⟩ : ∃ E, wr.heap.size = E := ⟨_, rfl⟩
      rw [hE] at b0 ⊢
      have HE := Lib.hid hE
      have HB0 := Lib.hid b0
      have HF0 := Lib.hid F0
      have di0' := (F0.cell _ _ ilb).trans di0
      have di1' := (F0.cell _ _ ilb).trans di1
      have dj0' := (F0.cell _ _ ilb).trans dj0
      have dj1' := (F0.cell _ _ ilb).trans dj1
      have e2' : W0.cell? ⟨E, 2, none⟩ = some (.int .i64 i) := by rw [cell_of_block b0]; rfl
      have e3' : W0.cell? ⟨E, 3, none⟩ = some (.int .i64 j) := by rw [cell_of_block b0]; rfl
      have le := lt_of_block b0
      have lib0 : ib < W0.heap.size := Nat.lt_of_lt_of_le ilb (Fr.size F0)
      clear hE b0 F0 di0 di1 dj0 dj1 c0 c1 c2 c3 c4
      go_cut [6, 7] (fun v6 v7 wx => ∃ P6 P7, v6 = .pointer (some ⟨P6, 0, none⟩) ∧ v7 = .pointer (some ⟨P7, 0, none⟩) ∧ Cq2 wr wx E P6 P7 kd lt i j tm xa la xb lb2)
      case first =>
        clear HRR HKEY
        go_region
        · go_wp2_with fail
          go_meet
          exact ⟨_, _, rfl, rfl, ((HF0.out.alloc _).alloc _).drew, alloc2_0 W0 _ _, alloc2_1 W0 _ _, (((Fr0.refl W0).alloc _).alloc _).drew.kept HB0.out⟩
        · go_wp2_with fail
          go_meet
          exact ⟨_, _, rfl, rfl, ((HF0.out.alloc _).alloc _).drew, alloc2_1 W0 _ _, alloc2_0 W0 _ _, (((Fr0.refl W0).alloc _).alloc _).drew.kept HB0.out⟩
      case rest =>
      obtain ⟨P6, P7, rfl, rfl, hq⟩ := hcut
      rename World => W2
      have HQ := Lib.hid hq
      have l6 := lt_of_block hq.b6
      have l7 := lt_of_block hq.b7
      have le5 := lt_of_block hq.be
      have hs2 := Fr.size hq.fr
      clear hq HB0 HF0 di0' di1' dj0' dj1' e2' e3' le lib0
      go_upto_region 8 with fail
      obtain ⟨P8, hP8⟩ : ∃ P, W2.heap.size = P := ⟨_, rfl⟩
      have K0 : Kq wr (W2.alloc (.cells #[.int .u64 0, .int .i64 (-1)] 47 (0, 0))) E P6 P7 P8 kd lt i j tm xa la xb lb2 (.int .u64 0) (.int .i64 (-1)) :=
        ⟨HQ.out.kept0 ((Fr0.refl W2).alloc _), alloc_at W2 _ _ hP8.symm, by omega, by omega, by omega, by omega⟩
      generalize W2.alloc (.cells #[.int .u64 0, .int .i64 (-1)] 47 (0, 0)) = W3 at *
      rw [hP8]
      have HK0 := Lib.hid K0
      clear l6 l7 le5 hP8 HQ hs2
      obtain ⟨⟨a0, a1⟩, ⟨z0, z1⟩, ⟨e0, e1, e2, e3, e4⟩, d0, d1, df⟩ := K0.cells
      clear K0
      go_upto_block 2 with fail
      go_cut [8] (fun v8 wx => v8 = .pointer (some ⟨P8, 0, none⟩) ∧ Kq wr wx E P6 P7 P8 kd lt i j tm xa la xb lb2 (.int .u64 (cmpR kd lt i j tm xa la xb lb2).1) (.int .i64 (cmpR kd lt i j tm xa la xb lb2).2))
      case first =>
        clear HRR HKEY HN1 HR HK HG
        by_cases k1 : kd = 1
        · subst k1
          have CM := Lib.hid (fun W => r4_Mix 1 lt 0 (by omega) (by omega) hl0 (by omega) (by omega) (by omega) W)
          have HRR : Hid (cmpR 1 lt i j tm xa la xb lb2 = (mixI 1 lt 0, 0)) := by show _ = _; unfold cmpR; rw [if_pos rfl]
          generalize mixI 1 lt 0 = m at *
          go_wp2_with fail
          refine (CM.out _).mono ?_
          rintro e w1 ⟨rfl, rfl⟩
          go_wp2_with fail
          go_meet
          rw [HRR.out]
          exact ⟨rfl, (HK0.out.set0 _).set1 _⟩
        · by_cases k2 : kd = 2
          · subst k2
            have CM := Lib.hid (fun W => r4_Mix 2 xa xb (by omega) (by omega) ra1 (by omega) rb1 (by omega) W)
            clear k1
            have key : ∀ W m, Kq wr W E P6 P7 P8 2 lt i j tm xa la xb lb2 (.int .u64 m) (.int .i64 (-1)) → True := fun _ _ _ => trivial
            by_cases c1 : (i : Int) = j
            · have q5 : ((i : Int) != j) = false := by simp [c1]
              have HRR : Hid (cmpR 2 lt i j tm xa la xb lb2 = (mixI 2 xa xb, -1)) := by show _ = _; unfold cmpR; rw [if_neg (by decide), if_pos rfl, if_neg (fun e => e.1 c1)]
              generalize mixI 2 xa xb = m at *
              clear c1
              go_wp2_with fail
              refine (CM.out _).mono ?_
              rintro e w1 ⟨rfl, rfl⟩
              go_wp2_with fail
              go_meet
              rw [HRR.out]
              exact ⟨rfl, HK0.out.set0 _⟩
            · have q5 : ((i : Int) != j) = true := by simp [c1]
              by_cases c2 : 0 ≤ la
              · by_cases c3 : 0 ≤ lb2
                · have q6 : decide (0 ≤ la) = true := decide_eq_true c2
                  have q7 : decide (0 ≤ lb2) = true := decide_eq_true c3
                  have KK : Hid (∀ x : Int, (la ≤ lb2 ∧ x = lb2 ∨ lb2 ≤ la ∧ x = la) → (∀ W, Calls Tryz.prog 32 #[.int .i64 x, .int .u64 xa, .int .u64 xb] W fun e w' => e = .returned (.int .i64 (aftI x xa xb)) ∧ Fr0 W w') ∧ cmpR 2 lt i j tm xa la xb lb2 = (mixI 2 xa xb, aftI x xa xb)) := fun x hx => by
                    refine ⟨fun W => r20_AfterI x xa xb (by omega) (by omega) ⟨ra1, ra2⟩ ⟨rb1, rb2⟩ W, ?_⟩
                    have hme : max la lb2 = x := by omega
                    unfold cmpR; rw [if_neg (by decide), if_pos rfl, if_pos ⟨c1, c2, c3⟩, hme]
                  by_cases c4 : la < lb2
                  · obtain ⟨CA, HRR⟩ := KK.out lb2 (.inl ⟨by omega, rfl⟩)
                    have CA := Lib.hid CA
                    have HRR := Lib.hid HRR
                    have q8 : ¬ lb2 ≤ la := by omega
                    have q9 : la ≤ lb2 := by omega
                    generalize mixI 2 xa xb = m at *
                    generalize aftI lb2 xa xb = lev at *
                    clear c1 c2 c3 KK
                    go_wp2_with fail
                    refine (CM.out _).mono ?_
                    rintro e w1 ⟨rfl, rfl⟩
                    have K1 := HK0.out.set0 (.int .u64 m)
                    have HK1 := Lib.hid K1
                    obtain ⟨⟨y0, y1⟩, ⟨x0, x1⟩, _, _, f1, ff⟩ := K1.cells
                    clear K1
                    go_wp2_with fail
                    refine (CA.out _).mono ?_
                    rintro e w2 ⟨rfl, hf2⟩
                    have HK2 := Lib.hid (HK1.out.kept0 hf2)
                    clear y0 y1 x0 x1 f1 ff hf2 a0 a1 z0 z1 e0 e1 e2 e3 e4 d0 d1 df CA CM HK0 HK1
                    obtain ⟨_, _, _, g0, g1, gf⟩ := HK2.out.cells
                    go_wp2_with fail
                    go_meet
                    rw [HRR.out]
                    exact ⟨rfl, HK2.out.set1 _⟩
                  · obtain ⟨CA, HRR⟩ := KK.out la (.inr ⟨by omega, rfl⟩)
                    have CA := Lib.hid CA
                    have HRR := Lib.hid HRR
                    have q8 : lb2 ≤ la := by omega
                    generalize mixI 2 xa xb = m at *
                    generalize aftI la xa xb = lev at *
                    clear c1 c2 c3 KK c4
                    go_wp2_with fail
                    refine (CM.out _).mono ?_
                    rintro e w1 ⟨rfl, rfl⟩
                    have K1 := HK0.out.set0 (.int .u64 m)
                    have HK1 := Lib.hid K1
                    obtain ⟨⟨y0, y1⟩, ⟨x0, x1⟩, _, _, f1, ff⟩ := K1.cells
                    clear K1
                    go_wp2_with fail
                    refine (CA.out _).mono ?_
                    rintro e w2 ⟨rfl, hf2⟩
                    have HK2 := Lib.hid (HK1.out.kept0 hf2)
                    clear y0 y1 x0 x1 f1 ff hf2 a0 a1 z0 z1 e0 e1 e2 e3 e4 d0 d1 df CA CM HK0 HK1
                    obtain ⟨_, _, _, g0, g1, gf⟩ := HK2.out.cells
                    go_wp2_with fail
                    go_meet
                    rw [HRR.out]
                    exact ⟨rfl, HK2.out.set1 _⟩
                · have q6 : decide (0 ≤ la) = true := decide_eq_true c2
                  have q7 : decide (0 ≤ lb2) = false := decide_eq_false c3
                  have HRR : Hid (cmpR 2 lt i j tm xa la xb lb2 = (mixI 2 xa xb, -1)) := by show _ = _; unfold cmpR; rw [if_neg (by decide), if_pos rfl, if_neg (fun e => c3 e.2.2)]
                  generalize mixI 2 xa xb = m at *
                  clear c1
                  go_wp2_with fail
                  refine (CM.out _).mono ?_
                  rintro e w1 ⟨rfl, rfl⟩
                  go_wp2_with fail
                  go_meet
                  rw [HRR.out]
                  exact ⟨rfl, HK0.out.set0 _⟩
              · have q6 : decide (0 ≤ la) = false := decide_eq_false c2
                have HRR : Hid (cmpR 2 lt i j tm xa la xb lb2 = (mixI 2 xa xb, -1)) := by show _ = _; unfold cmpR; rw [if_neg (by decide), if_pos rfl, if_neg (fun e => c2 e.2.1)]
                generalize mixI 2 xa xb = m at *
                clear c1
                go_wp2_with fail
                refine (CM.out _).mono ?_
                rintro e w1 ⟨rfl, rfl⟩
                go_wp2_with fail
                go_meet
                rw [HRR.out]
                exact ⟨rfl, HK0.out.set0 _⟩
          · obtain rfl : kd = 3 := by omega
            have CM := Lib.hid (fun W => r4_Mix 3 xa tm (by omega) (by omega) ra1 (by omega) ht0 (by omega) W)
            clear k1 k2
            by_cases c2 : 0 ≤ la
            · have q6 : decide (0 ≤ la) = true := decide_eq_true c2
              by_cases c3 : la % 2 = 0
              · have q7 : (la.tmod 2 == 0) = true := beq_iff_eq.2 (by rw [Int.tmod_eq_emod_of_nonneg c2]; exact c3)
                have q8 : (la % 2 == 0) = true := beq_iff_eq.2 c3
                have q9 : IntKind.i64.wrap (la + 1) = la + 1 := wrapI (by omega) (by omega)
                have HRR : Hid (cmpR 3 lt i j tm xa la xb lb2 = (mixI 3 xa tm, la + 1)) := by show _ = _; unfold cmpR; rw [if_neg (by decide), if_neg (by decide), if_pos ⟨c2, c3⟩]
                generalize mixI 3 xa tm = m at *
                clear c3
                go_wp2_with fail
                refine (CM.out _).mono ?_
                rintro e w1 ⟨rfl, rfl⟩
                go_wp2_with fail
                go_meet
                rw [HRR.out]
                exact ⟨rfl, (HK0.out.set0 _).set1 _⟩
              · have q7 : (la.tmod 2 == 0) = false := beq_eq_false_iff_ne.2 (by rw [Int.tmod_eq_emod_of_nonneg c2]; exact c3)
                have q8 : (la % 2 == 0) = false := beq_eq_false_iff_ne.2 c3
                have HRR : Hid (cmpR 3 lt i j tm xa la xb lb2 = (mixI 3 xa tm, -1)) := by show _ = _; unfold cmpR; rw [if_neg (by decide), if_neg (by decide), if_neg (fun e => c3 e.2)]
                generalize mixI 3 xa tm = m at *
                clear c3
                go_wp2_with fail
                refine (CM.out _).mono ?_
                rintro e w1 ⟨rfl, rfl⟩
                go_wp2_with fail
                go_meet
                rw [HRR.out]
                exact ⟨rfl, HK0.out.set0 _⟩
            · have q6 : decide (0 ≤ la) = false := decide_eq_false c2
              have HRR : Hid (cmpR 3 lt i j tm xa la xb lb2 = (mixI 3 xa tm, -1)) := by show _ = _; unfold cmpR; rw [if_neg (by decide), if_neg (by decide), if_neg (fun e => c2 e.1)]
              generalize mixI 3 xa tm = m at *
              go_wp2_with fail
              refine (CM.out _).mono ?_
              rintro e w1 ⟨rfl, rfl⟩
              go_wp2_with fail
              go_meet
              rw [HRR.out]
              exact ⟨rfl, HK0.out.set0 _⟩
      case rest =>
      obtain ⟨rfl, hk9⟩ := hcut
      rename World => W9
      have HK9 := Lib.hid hk9
      have HROW := Lib.hid (hk9.q.fr.owns HRR.out.own)
      have hsz9 := Fr.size (HRR.out.fr.trans hk9.q.fr)
      have hpv := cmp_pair HKEY.out
      obtain ⟨⟨a0, a1⟩, ⟨z0, z1⟩, ⟨e0, e1, e2, e3, e4⟩, d0, d1, df⟩ := hk9.cells
      have HKY := Lib.hid (kyL_succ L (k + 1))
      rw [← hpv] at HKY
      clear a0 a1 z0 z1 e0 e1 e2 e3 e4 hk9 HK0 hpv HKEY
      generalize (cmpR kd lt i j tm xa la xb lb2).1 = m at *
      generalize (cmpR kd lt i j tm xa la xb lb2).2 = lev at *
      go_wp2_with (at_builtin; refine wpList_pushG (vals := kyv) rt_key rfl _ _ rfl w.heap.size _ (kyL L (k + 1)) rfl HROW.out hsz9 47 ((m, lev) : Int × Int) _ rfl rfl (by simp [kyv, Value.oneCell']) _ _ rfl rfl (by omega) hlen6 ?_; intro v' w8 hO8 hg8 hat8)
      have hX : KkR w w8 L (k + 1) v' := by
        refine ⟨Fr.grown ((HRR.out.fr.trans HK9.out.q.fr).alloc _) hg8 (fun j hj hlt => by have := (HROW.out.lt j hj).1; omega), ?_⟩
        rw [HKY.out]
        exact hO8
      go_roundw
      case rel => exact ⟨k + 1, by omega, by go_num, hX⟩
      case measure => simp [intOf]; omega
    · have hke : k = L.length := by omega
      subst hke
      have q1 : decide ((L.length : Int) + 1 < (n1 : Int)) = false := decide_eq_false (by have := HN1.out; omega)
      obtain ⟨ca, ccap, rfl⟩ := owns_form hr.own
      have HF := Lib.hid hr.fr
      have HO := Lib.hid hr.own
      rw [kyL_len] at HO
      rw [HN1.out] at HO
      clear hr HR HK HG hlt hln hk
      have hn1' : (kyL L (L.length + 1)).length = n1 := by rw [kyL_len]; exact HN1.out
      rw [hn1']
      clear hn1'
      go_wp2_with fail
      exact bodyPost_ret (v := .slice ca n1 ccap) (by simp [results, Tryz.results10, go_sem]) rfl ⟨_, rfl, HF.out, HO.out⟩

end Go.Proofs.YtodmpcnpedpheaaGreatDoor

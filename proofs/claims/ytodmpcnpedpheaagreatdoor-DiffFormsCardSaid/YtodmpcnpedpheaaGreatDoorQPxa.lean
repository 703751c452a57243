/- Readers (plain): what newReader leaves, and what each step of common does. -/
import Derived.Test.YtodmpcnpedpheaaGreatDoorQSg3
import Derived.Test.YtodmpcnpedpheaaGreatDoorQSt9
set_option linter.unusedSimpArgs false
set_option linter.unusedVariables false
namespace Go.Proofs.YtodmpcnpedpheaaGreatDoor
open Go.RowKit

def GAll (L : List Ent) (td : List (Int × Int)) : Prop := ∀ p ∈ td, GOk L p

theorem GAll.nil (L : List Ent) : GAll L [] := fun p hp => by simp at hp
theorem GAll.app {L : List Ent} {a b : List (Int × Int)} (ha : GAll L a) (hb : GAll L b) : GAll L (a ++ b) := fun p hp => by
  rcases List.mem_append.1 hp with h | h
  · exact ha p h
  · exact hb p h
theorem GAll.left {L : List Ent} {a b : List (Int × Int)} (h : GAll L (a ++ b)) : GAll L a := fun p hp => h p (List.mem_append_left _ hp)
theorem GAll.right {L : List Ent} {a b : List (Int × Int)} (h : GAll L (a ++ b)) : GAll L b := fun p hp => h p (List.mem_append_right _ hp)
theorem GAll.one {L : List Ent} {p : Int × Int} (h : GOk L p) : GAll L [p] := fun q hq => by
  rw [List.mem_singleton] at hq; rw [hq]; exact h
theorem GAll.last {L : List Ent} {a : List (Int × Int)} {p : Int × Int} (h : GAll L (a ++ [p])) : GOk L p := h p (List.mem_append_right _ (List.mem_singleton.2 rfl))
theorem GOk.times {L : List Ent} {x k k' : Int} (h : GOk L (x, k)) (hk : 1 ≤ k') : GOk L (x, k') := ⟨h.kn, h.ne, h.lv, hk⟩
theorem GAll.drp {L : List Ent} {td : List (Int × Int)} {x k k' : Int} (h : GAll L (td ++ [(x, k)])) (hk : 0 ≤ k') : GAll L (drpG td x k') := by
  unfold drpG
  split
  · exact h.left
  · exact h.left.app (GAll.one (h.last.times (by omega)))

theorem GAll.len {L : List Ent} (hS : SOk L) (hD : DOk L) (back : Bool) : ∀ {td : List (Int × Int)}, GAll L td → td.length ≤ (restG L back td).length
  | [], _ => Nat.zero_le _
  | p :: r, h => by
    have ih := GAll.len hS hD back (td := r) (fun q hq => h q (List.mem_cons_of_mem _ hq))
    have hp := h p List.mem_cons_self
    have e : restG L back (p :: r) = restG L back r ++ restG L back [p] := restG_append L back [p] r
    have e2 : restG L back [p] = reps (txB L back p.1) p.2.toNat := by
      show reps (txB L back p.1) p.2.toNat ++ [] = _
      rw [List.append_nil]
    have hl := txt_pos hS hD hp.kn hp.ne
    have ht := hp.tm
    rw [e, e2, List.length_append, reps_len, txB_len, List.length_cons]
    have h1 : 1 * 1 ≤ p.2.toNat * (txt L p.1).length := Nat.mul_le_mul (by omega) hl
    omega

/-- Copies of the last group: all of them, and what they say of the rest. -/
theorem rest_last {L : List Ent} (hS : SOk L) (hD : DOk L) (back : Bool) {td : List (Int × Int)} {x k : Int} (h : GAll L (td ++ [(x, k)])) : (restG L back (td ++ [(x, k)])).length = k.toNat * (txt L x).length + (restG L back td).length ∧ 1 ≤ (txt L x).length ∧ k ≤ (restG L back (td ++ [(x, k)])).length := by
  have hl := txt_pos hS hD h.last.kn h.last.ne
  have ht := h.last.tm
  have e : (restG L back (td ++ [(x, k)])).length = k.toNat * (txt L x).length + (restG L back td).length := by
    rw [restG_push, List.length_append, reps_len, txB_len]
  have h1 : k.toNat * 1 ≤ k.toNat * (txt L x).length := Nat.mul_le_mul_left _ hl
  dsimp only at ht
  exact ⟨e, hl, by omega⟩

theorem klev_pos {L : List Ent} (hD : DOk L) {id : Int} (hk : isKnown L id) (h0 : id ≠ 0) (hl : 0 ≤ klev L id) (h : (entAt L id).rule.kind ≠ 1) : 1 ≤ klev L id := by
  have h1 := hk.1
  rcases hD.at id hk h0 with ⟨g1, _⟩ | ⟨g1, g2, _⟩ | ⟨g1, g2, _⟩
  · exact absurd g1 h
  · have e := (kl_pair hD hk h0 g1).2
    rw [e] at hl ⊢
    by_cases c : (entAt L id).rule.left ≠ (entAt L id).rule.right ∧ 0 ≤ klev L (entAt L id).rule.left ∧ 0 ≤ klev L (entAt L id).rule.right
    · rw [if_pos c]
      have k1 := kkey_rng hD (id := (entAt L id).rule.left) ⟨by omega, by have := hk.2; omega⟩ (by omega)
      have k2 := kkey_rng hD (id := (entAt L id).rule.right) ⟨by omega, by have := hk.2; omega⟩ (by omega)
      have := (aftI_spec (low := max (klev L (entAt L id).rule.left) (klev L (entAt L id).rule.right)) (by omega) k1.1 k1.2 k2.1 k2.2).1
      omega
    · rw [if_neg c] at hl; omega
  · have e := (kl_power hD hk h0 g1).2
    rw [e] at hl ⊢
    by_cases c : 0 ≤ klev L (entAt L id).rule.left ∧ klev L (entAt L id).rule.left % 2 = 0
    · rw [if_pos c]; omega
    · rw [if_neg c] at hl; omega

theorem klev_kind {L : List Ent} (hD : DOk L) {id : Int} (hk : isKnown L id) (h0 : id ≠ 0) (hl : 1 ≤ klev L id) : (entAt L id).rule.kind ≠ 1 := fun h => by
  have h1 := hk.1
  have := (kl_letter (L := L) (id := id) (by omega) h).2
  omega

/-- Different letters. -/
theorem cpl_letters {L : List Ent} (hD : DOk L) (hU : Uq L) (back : Bool) {tx ty : List (Int × Int)} {a b k m : Int} (ha : GOk L (a, k)) (hb : GOk L (b, m)) (hne : a ≠ b) (h1 : klev L a = 0) (h2 : klev L b = 0) :
    cpl (restG L back (tx ++ [(a, k)])) (restG L back (ty ++ [(b, m)])) = 0 := by
  have k1 : (entAt L a).rule.kind = 1 := by
    by_cases c : (entAt L a).rule.kind = 1
    · exact c
    · have := klev_pos hD ha.kn ha.ne (by show 0 ≤ klev L a; omega) c; dsimp only at this; omega
  have k2 : (entAt L b).rule.kind = 1 := by
    by_cases c : (entAt L b).rule.kind = 1
    · exact c
    · have := klev_pos hD hb.kn hb.ne (by show 0 ≤ klev L b; omega) c; dsimp only at this; omega
  have hl : (entAt L a).rule.letter ≠ (entAt L b).rule.letter := by
    intro e
    apply hne
    refine hU.one a b ha.kn hb.kn ha.ne hb.ne ?_
    have e1 : entAt L a = letterEnt (entAt L a).rule.letter := by
      rcases hD.at a ha.kn ha.ne with ⟨_, g⟩ | ⟨g, _⟩ | ⟨g, _⟩
      · exact g
      · omega
      · omega
    have e2 : entAt L b = letterEnt (entAt L b).rule.letter := by
      rcases hD.at b hb.kn hb.ne with ⟨_, g⟩ | ⟨g, _⟩ | ⟨g, _⟩
      · exact g
      · omega
      · omega
    rw [e1, e2, e]
  have one : ∀ (x : Int) (t : List Int), txt L x = [t.headD 0] → txB L back x = [t.headD 0] := by
    intro x t h; unfold txB; rw [h]; cases back <;> rfl
  have t1 : txB L back a = [(entAt L a).rule.letter] := one a [_] (txt_letter ha.kn ha.ne k1)
  have t2 : txB L back b = [(entAt L b).rule.letter] := one b [_] (txt_letter hb.kn hb.ne k2)
  obtain ⟨k', hk'⟩ : ∃ j, k.toNat = j + 1 := ⟨k.toNat - 1, by have := ha.tm; dsimp only at this; omega⟩
  obtain ⟨m', hm'⟩ : ∃ j, m.toNat = j + 1 := ⟨m.toNat - 1, by have := hb.tm; dsimp only at this; omega⟩
  rw [restG_push, restG_push]
  dsimp only
  rw [hk', hm', reps_succ, reps_succ, t1, t2]
  exact cpl_ne hl _ _

/-- What common keeps. -/
structure CmI (L : List Ent) (back : Bool) (C : Nat) (tx ty : List (Int × Int)) (sum : Nat) : Prop where
  gx : GAll L tx
  gy : GAll L ty
  sum : sum + cpl (restG L back tx) (restG L back ty) = C

def mesG (L : List Ent) (back : Bool) (tx ty : List (Int × Int)) : Nat := potG L tx + potG L ty + (restG L back tx).length

theorem potG_drp (L : List Ent) (td : List (Int × Int)) (x k j : Int) (hj : 0 ≤ j) (hk : j ≤ k) : potG L (drpG td x (k - j)) + j.toNat * ((txt L x).length - 1) = potG L (td ++ [(x, k)]) := by
  have e : ∀ m : Int, potG L (td ++ [(x, m)]) = potG L td + m.toNat * ((txt L x).length - 1) := fun m => by rw [potG_append]; rfl
  have e2 : potG L (drpG td x (k - j)) = potG L td + (k - j).toNat * ((txt L x).length - 1) := by
    unfold drpG
    split
    · rename_i h; rw [h]; simp
    · exact e _
  rw [e2, e, Nat.add_assoc, ← Nat.add_mul]
  congr 2
  omega

theorem CmI.same {L : List Ent} {back : Bool} {C : Nat} {tx ty : List (Int × Int)} {a k m t : Int} {sum : Nat} (hS : SOk L) (hD : DOk L) (h : CmI L back C (tx ++ [(a, k)]) (ty ++ [(a, m)]) sum) (ht1 : 1 ≤ t) (hk : t ≤ k) (hm : t ≤ m) :
    CmI L back C (drpG tx a (k - t)) (drpG ty a (m - t)) (sum + t.toNat * (txt L a).length) ∧ mesG L back (drpG tx a (k - t)) (drpG ty a (m - t)) < mesG L back (tx ++ [(a, k)]) (ty ++ [(a, m)]) := by
  have hs := h.sum
  have hl := txt_pos hS hD h.gx.last.kn h.gx.last.ne
  rw [restG_drop L back tx a k t (by omega) hk, restG_drop L back ty a m t (by omega) hm, cpl_append, reps_len, txB_len] at hs
  refine ⟨⟨h.gx.drp (by omega), h.gy.drp (by omega), by omega⟩, ?_⟩
  have p1 := potG_drp L tx a k t (by omega) hk
  have p2 := potG_drp L ty a m t (by omega) hm
  have e := congrArg List.length (restG_drop L back tx a k t (by omega) hk)
  rw [List.length_append, reps_len, txB_len] at e
  have h1 : 1 * 1 ≤ t.toNat * (txt L a).length := Nat.mul_le_mul (by omega) hl
  unfold mesG
  rw [e]
  omega

theorem open_ok {L : List Ent} {back : Bool} (hS : SOk L) (hD : DOk L) (hU : Uq L) {td : List (Int × Int)} {a k : Int} (h : GAll L (td ++ [(a, k)])) (h1 : (entAt L a).rule.kind ≠ 1) :
    GAll L (drpG td a (k - 1) ++ opnG L back a) ∧ restG L back (drpG td a (k - 1) ++ opnG L back a) = restG L back (td ++ [(a, k)]) ∧ potG L (drpG td a (k - 1) ++ opnG L back a) < potG L (td ++ [(a, k)]) := by
  have hg := h.last
  have ht := hg.tm
  dsimp only at ht
  refine ⟨(h.drp (by omega)).app (fun p hp => (kids_ok hS hD hg.kn hg.ne hg.lv p hp).1), ?_, ?_⟩
  · rw [restG_open hD hg.kn hg.ne h1, restG_drop L back td a k 1 (by omega) ht]
    rw [show ((1 : Int)).toNat = 1 by decide, reps_one]
  · have p1 := potG_drp L td a k 1 (by omega) ht
    have p2 := potG_open (back := back) hS hD hg.kn hg.ne h1 (fun h3 => hU.pow a hg.kn hg.ne h3)
    rw [potG_append]
    rw [show ((1 : Int)).toNat = 1 by decide, Nat.one_mul] at p1
    dsimp only at p2
    omega

theorem CmI.openX {L : List Ent} {back : Bool} {C : Nat} {tx ty : List (Int × Int)} {a k : Int} {sum : Nat} (hS : SOk L) (hD : DOk L) (hU : Uq L) (h : CmI L back C (tx ++ [(a, k)]) ty sum) (h1 : (entAt L a).rule.kind ≠ 1) :
    CmI L back C (drpG tx a (k - 1) ++ opnG L back a) ty sum ∧ mesG L back (drpG tx a (k - 1) ++ opnG L back a) ty < mesG L back (tx ++ [(a, k)]) ty := by
  obtain ⟨g1, g2, g3⟩ := open_ok (back := back) hS hD hU h.gx h1
  exact ⟨⟨g1, h.gy, by rw [g2]; exact h.sum⟩, by unfold mesG; rw [g2]; omega⟩

theorem CmI.openY {L : List Ent} {back : Bool} {C : Nat} {tx ty : List (Int × Int)} {a k : Int} {sum : Nat} (hS : SOk L) (hD : DOk L) (hU : Uq L) (h : CmI L back C tx (ty ++ [(a, k)]) sum) (h1 : (entAt L a).rule.kind ≠ 1) :
    CmI L back C tx (drpG ty a (k - 1) ++ opnG L back a) sum ∧ mesG L back tx (drpG ty a (k - 1) ++ opnG L back a) < mesG L back tx (ty ++ [(a, k)]) := by
  obtain ⟨g1, g2, g3⟩ := open_ok (back := back) hS hD hU h.gy h1
  exact ⟨⟨h.gx, g1, by rw [g2]; exact h.sum⟩, by unfold mesG; omega⟩

theorem CmI.end_ {L : List Ent} {back : Bool} {C : Nat} {tx ty : List (Int × Int)} {sum : Nat} (h : CmI L back C tx ty sum) (he : tx = [] ∨ ty = []) : sum = C := by
  have hs := h.sum
  have : cpl (restG L back tx) (restG L back ty) = 0 := by
    have hl := cpl_le (restG L back tx) (restG L back ty)
    rcases he with e | e
    · rw [e, restG_nil] at hl ⊢; have := hl.1; simp at this; exact this
    · rw [e, restG_nil] at hl ⊢; have := hl.2; simp at this; exact this
  omega

/-- What newReader keeps. -/
structure NrI (L : List Ent) (back : Bool) (R : List Int) (id : Int) (n : Nat) (td : List (Int × Int)) (q : Int) : Prop where
  g : GAll L (td ++ [(id, q + 1)])
  q0 : 0 ≤ q
  n1 : 1 ≤ n
  n2 : n ≤ (txt L id).length
  rest : tailG L back id n ++ (reps (txB L back id) q.toNat ++ restG L back td) = R

theorem restG_drp (L : List Ent) (back : Bool) (td : List (Int × Int)) (x k : Int) : restG L back (drpG td x k) = reps (txB L back x) k.toNat ++ restG L back td := by
  unfold drpG
  split
  · rename_i h; rw [h]; rfl
  · rw [restG_push]

theorem NrI.start {L : List Ent} {back : Bool} {id : Int} {n : Nat} (hg : GOk L (id, 1)) (h1 : 1 ≤ n) (h2 : n ≤ (txt L id).length) : NrI L back (tailG L back id n) id n [] 0 :=
  ⟨by exact GAll.one hg, by omega, h1, h2, by rw [restG_nil]; simp [reps]⟩

theorem NrI.done {L : List Ent} {back : Bool} {R : List Int} {id : Int} {n : Nat} {td : List (Int × Int)} {q : Int} (h : NrI L back R id n td q) (hn : (txt L id).length ≤ n) : restG L back (td ++ [(id, q + 1)]) = R := by
  have hr := h.rest
  have h2 := h.n2
  have hq := h.q0
  rw [show n = (txt L id).length by omega, tailG_all] at hr
  rw [restG_push]
  dsimp only
  rw [show (q + 1).toNat = q.toNat + 1 by omega, reps_succ, List.append_assoc]
  exact hr

theorem NrI.pow {L : List Ent} {back : Bool} {R : List Int} {id : Int} {n : Nat} {td : List (Int × Int)} {q : Int} (hS : SOk L) (hD : DOk L) (h : NrI L back R id n td q) (h3 : (entAt L id).rule.kind = 3) (q' n' once : Nat) (ho : once = (txt L (entAt L id).rule.left).length) (hq' : q' = (n - 1) / once) (hn' : n' = (n - 1) % once + 1) :
    NrI L back R (entAt L id).rule.left n' (drpG td id q) q' ∧ (q' : Int) + 1 ≤ (entAt L id).rule.times ∧ (entAt L id).rule.left < id ∧ 1 ≤ once := by
  have hg := h.g.last
  have h1 := h.n1
  have h2 := h.n2
  have hk := (kids_ok (back := back) hS hD hg.kn hg.ne hg.lv ((entAt L id).rule.left, (entAt L id).rule.times) (by unfold opnG; rw [if_pos h3]; exact List.mem_singleton.2 rfl))
  have hp := txt_pos hS hD hk.1.kn hk.1.ne
  dsimp only at hp
  have hl : (txt L id).length = (entAt L id).rule.times.toNat * once := by
    have := congrArg List.length (txt_pow hD hg.kn hg.ne h3)
    rw [reps_len] at this
    rw [ho]; exact this
  have ht := hk.1.tm
  dsimp only at ht
  have hm := Nat.div_add_mod (n - 1) once
  have hlt := Nat.mod_lt (n - 1) (show 0 < once by omega)
  have hql : q' + 1 ≤ (entAt L id).rule.times.toNat := by
    rw [hq']
    refine Nat.lt_of_mul_lt_mul_right (a := once) ?_
    rw [Nat.mul_comm]
    omega
  have hn : n = q' * once + n' := by
    rw [hq', hn', Nat.mul_comm]; omega
  refine ⟨⟨(h.g.drp (k' := q) h.q0).app (GAll.one ⟨hk.1.kn, hk.1.ne, hk.1.lv, by show 1 ≤ (q' : Int) + 1; omega⟩), by omega, by omega, by omega, ?_⟩, by omega, hk.2, by omega⟩
  have hr := h.rest
  have hle : n' ≤ (txt L (entAt L id).rule.left).length := by omega
  rw [hn, ho, tailG_pow (n' := n') (q := q') hD back hg.kn hg.ne h3 hle hql] at hr
  rw [restG_drp, Int.toNat_natCast, ← hr, List.append_assoc]

theorem NrI.far {L : List Ent} {back : Bool} {R : List Int} {id : Int} {n : Nat} {td : List (Int × Int)} {q : Int} (hS : SOk L) (hD : DOk L) (h : NrI L back R id n td q) (h2 : (entAt L id).rule.kind = 2) {far : Int} (hf : far = (if back then (entAt L id).rule.left else (entAt L id).rule.right)) (hn : n ≤ (txt L far).length) :
    NrI L back R far n (drpG td id q) 0 ∧ far < id := by
  have hg := h.g.last
  have hk := (kids_ok (back := back) hS hD hg.kn hg.ne hg.lv (far, 1) (by unfold opnG; rw [if_neg (by rw [h2]; decide), if_pos h2, hf]; cases back <;> simp))
  refine ⟨⟨(h.g.drp (k' := q) h.q0).app (GAll.one hk.1), by omega, h.n1, hn, ?_⟩, hk.2⟩
  have hr := h.rest
  rw [tailG_far hD back hg.kn hg.ne h2 (by rw [← hf]; exact hn), ← hf] at hr
  rw [restG_drp, ← hr]
  rfl

theorem NrI.near {L : List Ent} {back : Bool} {R : List Int} {id : Int} {n : Nat} {td : List (Int × Int)} {q : Int} (hS : SOk L) (hD : DOk L) (h : NrI L back R id n td q) (h2 : (entAt L id).rule.kind = 2) {far near : Int} (hf : far = (if back then (entAt L id).rule.left else (entAt L id).rule.right)) (hf2 : near = (if back then (entAt L id).rule.right else (entAt L id).rule.left)) (hn : (txt L far).length < n) :
    NrI L back R near (n - (txt L far).length) (drpG td id q ++ [(far, 1)]) 0 ∧ near < id := by
  have hg := h.g.last
  have hk := (kids_ok (back := back) hS hD hg.kn hg.ne hg.lv (far, 1) (by unfold opnG; rw [if_neg (by rw [h2]; decide), if_pos h2, hf]; cases back <;> simp))
  have hk2 := (kids_ok (back := back) hS hD hg.kn hg.ne hg.lv (near, 1) (by unfold opnG; rw [if_neg (by rw [h2]; decide), if_pos h2, hf2]; cases back <;> simp))
  have hl : (txt L id).length = (txt L near).length + (txt L far).length := by
    have := congrArg List.length (txB_pair hD back hg.kn hg.ne h2)
    rw [List.length_append, txB_len, txB_len, txB_len, ← hf, ← hf2] at this
    exact this
  have hn2 := h.n2
  have hle : n - (txt L far).length ≤ (txt L near).length := by omega
  refine ⟨⟨((h.g.drp (k' := q) h.q0).app (GAll.one hk.1)).app (GAll.one hk2.1), by omega, by omega, hle, ?_⟩, hk2.2⟩
  have hr := h.rest
  have hx := tailG_near hD back hg.kn hg.ne h2 (n := n - (txt L far).length) (by rw [← hf2]; exact hle)
  rw [← hf, ← hf2, show n - (txt L far).length + (txt L far).length = n by omega] at hx
  rw [hx, List.append_assoc] at hr
  rw [restG_push, restG_drp, ← hr]
  dsimp only
  rw [show ((1 : Int)).toNat = 1 by decide, reps_one]
  rfl

theorem tailG_len (L : List Ent) (back : Bool) (id : Int) {n : Nat} (h : n ≤ (txt L id).length) : (tailG L back id n).length = n := by
  unfold tailG; rw [List.length_drop, txB_len]; omega

theorem NrI.bnd {L : List Ent} {back : Bool} {R : List Int} {id : Int} {n : Nat} {td : List (Int × Int)} {q : Int} (hS : SOk L) (hD : DOk L) (h : NrI L back R id n td q) : td.length ≤ R.length ∧ q ≤ R.length := by
  have e := congrArg List.length h.rest
  rw [List.length_append, List.length_append, tailG_len _ _ _ h.n2, reps_len, txB_len] at e
  have h1 := GAll.len hS hD back h.g.left
  have hl := txt_pos hS hD h.g.last.kn h.g.last.ne
  have h2 : q.toNat * 1 ≤ q.toNat * (txt L id).length := Nat.mul_le_mul_left _ hl
  have h3 := h.q0
  omega

theorem NrI.opn2 {L : List Ent} {back : Bool} {id : Int} (h2 : (entAt L id).rule.kind = 2) {far near : Int} (hf : far = (if back then (entAt L id).rule.left else (entAt L id).rule.right)) (hf2 : near = (if back then (entAt L id).rule.right else (entAt L id).rule.left)) : opnG L back id = [(far, 1), (near, 1)] := by
  unfold opnG; rw [if_neg (by rw [h2]; decide), if_pos h2, hf, hf2]; cases back <;> rfl

theorem NrI.opn3 {L : List Ent} {back : Bool} {id : Int} (h3 : (entAt L id).rule.kind = 3) : opnG L back id = [((entAt L id).rule.left, (entAt L id).rule.times)] := by
  unfold opnG; rw [if_pos h3]

end Go.Proofs.YtodmpcnpedpheaaGreatDoor

/- Ranges of texts (plain): how a range of a pair or of a power divides. -/
set_option linter.unusedSimpArgs false
set_option linter.unusedVariables false
namespace Go.Proofs.YtodmpcnpedpheaaGreatDoor
open Go.RowKit

/-- The letters of a range. -/
def rngT (t : List Int) (f n : Nat) : List Int := (t.drop f).take n

theorem rngT_len {t : List Int} {f n : Nat} (h : f + n ≤ t.length) : (rngT t f n).length = n := by
  unfold rngT; rw [List.length_take, List.length_drop]; omega
theorem rngT_zero (t : List Int) (f : Nat) : rngT t f 0 = [] := by unfold rngT; rw [List.take_zero]
theorem rngT_all (t : List Int) : rngT t 0 t.length = t := by unfold rngT; simp

theorem rngT_append (s t : List Int) {f n g : Nat} (hg : g = min (s.length - f) n) (hf : f + n ≤ s.length + t.length) : rngT (s ++ t) f n = rngT s (min f s.length) g ++ rngT t (f - s.length) (n - g) := by
  unfold rngT
  rw [List.drop_append, List.take_append, List.length_drop]
  by_cases h : f ≤ s.length
  · rw [Nat.min_eq_left h]
    congr 1
    · by_cases h2 : n ≤ s.length - f
      · rw [hg, Nat.min_eq_right h2]
      · rw [List.take_of_length_le (by rw [List.length_drop]; omega), List.take_of_length_le (by rw [List.length_drop]; omega)]
    · congr 1
      omega
  · rw [Nat.min_eq_right (by omega), List.drop_of_length_le (by omega : s.length ≤ f), List.drop_length]
    simp only [List.take_nil, List.nil_append]
    congr 1
    omega

theorem take_reps (t : List Int) (h : 1 ≤ t.length) : ∀ (j n : Nat), n ≤ j * t.length → (reps t j).take n = reps t (n / t.length) ++ t.take (n % t.length)
  | 0, n => by
    intro hn
    have : n = 0 := by omega
    subst this
    simp [reps]
  | j + 1, n => by
    intro hn
    rw [reps_succ, List.take_append]
    by_cases hlt : n < t.length
    · rw [Nat.div_eq_of_lt hlt, Nat.mod_eq_of_lt hlt, show n - t.length = 0 by omega, List.take_zero, List.append_nil, reps_zero, List.nil_append]
    · have hle : t.length ≤ n := by omega
      rw [Nat.add_mul, Nat.one_mul] at hn
      rw [List.take_of_length_le hle, take_reps t h j (n - t.length) (by omega)]
      rw [Nat.div_eq_sub_div (by omega) hle, Nat.mod_eq_sub_mod hle, reps_succ, List.append_assoc]

theorem drop_reps2 (t : List Int) (h : 1 ≤ t.length) : ∀ (m f : Nat), f < m * t.length → (reps t m).drop f = t.drop (f % t.length) ++ reps t (m - f / t.length - 1)
  | 0, f => by intro hf; omega
  | m + 1, f => by
    intro hf
    rw [Nat.add_mul, Nat.one_mul] at hf
    rw [reps_succ, List.drop_append]
    by_cases hlt : f < t.length
    · rw [Nat.div_eq_of_lt hlt, Nat.mod_eq_of_lt hlt, show f - t.length = 0 by omega, List.drop_zero, show m + 1 - 0 - 1 = m by omega]
    · have hle : t.length ≤ f := by omega
      have hd : f / t.length = (f - t.length) / t.length + 1 := Nat.div_eq_sub_div (by omega) hle
      rw [List.drop_of_length_le hle, List.nil_append, drop_reps2 t h m (f - t.length) (by omega), Nat.mod_eq_sub_mod hle, hd]
      congr 2
      omega

/-- A range of a power within one copy. -/
theorem rngT_reps1 (t : List Int) (h : 1 ≤ t.length) {m f n : Nat} (h1 : 1 ≤ n) (hf : f + n ≤ m * t.length) (hn : f % t.length + n ≤ t.length) : rngT (reps t m) f n = rngT t (f % t.length) n := by
  unfold rngT
  rw [drop_reps2 t h m f (by omega), List.take_append_of_le_length (by rw [List.length_drop]; omega)]

theorem div_lt_m {m k f n : Nat} (h : 1 ≤ k) (h1 : 1 ≤ n) (hf : f + n ≤ m * k) : f / k < m := by
  rw [Nat.div_lt_iff_lt_mul (by omega)]; omega

/-- A range of a power over its copies: the end of one, whole ones, the beginning of one. -/
theorem rngT_reps3 (t : List Int) (h : 1 ≤ t.length) {m f n hd : Nat} (h1 : 1 ≤ n) (hf : f + n ≤ m * t.length) (hn : t.length < f % t.length + n) (hhd : hd = (t.length - f % t.length) % t.length) :
    rngT (reps t m) f n = rngT t (f % t.length) hd ++ (reps t ((n - hd) / t.length) ++ rngT t 0 ((n - hd) % t.length)) ∧ hd ≤ n ∧ f % t.length + hd ≤ t.length := by
  have hml := Nat.mod_lt f (show 0 < t.length by omega)
  have hdm := Nat.div_add_mod f t.length
  have hq := div_lt_m h h1 hf
  have hrest : ∀ j, m - f / t.length - 1 = j → m * t.length = f / t.length * t.length + t.length + j * t.length := fun j hj => by
    obtain rfl : m = f / t.length + 1 + j := by omega
    rw [Nat.add_mul, Nat.add_mul, Nat.one_mul]
  have hj := hrest _ rfl
  have e0 : f / t.length * t.length = t.length * (f / t.length) := Nat.mul_comm _ _
  have ed : rngT (reps t m) f n = (t.drop (f % t.length) ++ reps t (m - f / t.length - 1)).take n := by
    unfold rngT
    rw [drop_reps2 t h m f (by omega)]
  by_cases hz : f % t.length = 0
  · have hd0 : hd = 0 := by rw [hhd, hz, Nat.sub_zero, Nat.mod_self]
    refine ⟨?_, by omega, by omega⟩
    rw [ed, hz, List.drop_zero, ← reps_succ, take_reps t h _ n (by rw [Nat.add_mul, Nat.one_mul]; omega), hd0, rngT_zero, List.nil_append, Nat.sub_zero]
    unfold rngT
    rw [List.drop_zero]
  · have hdd : hd = t.length - f % t.length := by rw [hhd]; exact Nat.mod_eq_of_lt (by omega)
    refine ⟨?_, by omega, by omega⟩
    rw [ed, List.take_append, List.take_of_length_le (by rw [List.length_drop]; omega), List.length_drop, ← hdd, take_reps t h _ (n - hd) (by omega)]
    congr 1
    unfold rngT
    rw [hdd, List.take_of_length_le (by rw [List.length_drop]; omega)]

/-- A range of a text that is still to be read. -/
structure Sp where
  id : Int
  from_ : Nat
  n : Nat
  times : Nat

def spT (L : List Ent) (s : Sp) : List Int := reps (rngT (txt L s.id) s.from_ s.n) s.times
structure SpOk (L : List Ent) (s : Sp) : Prop where
  kn : isKnown L s.id
  fit : s.from_ + s.n ≤ (txt L s.id).length
  one : s.times = 1 ∨ (s.from_ = 0 ∧ s.n = (txt L s.id).length)

/-- What is left to read: the last range is the next. -/
def restS (L : List Ent) (ss : List Sp) : List Int := (ss.reverse.map (spT L)).flatten
theorem restS_nil (L : List Ent) : restS L [] = [] := rfl
theorem restS_push (L : List Ent) (ss : List Sp) (s : Sp) : restS L (ss ++ [s]) = spT L s ++ restS L ss := by
  unfold restS; rw [List.reverse_append]; rfl
def mesS (ss : List Sp) : Nat := (ss.map fun s => if s.times = 0 then 1 else 1 + 4 * s.n * s.id.toNat).sum
theorem mesS_push (ss : List Sp) (s : Sp) : mesS (ss ++ [s]) = mesS ss + (if s.times = 0 then 1 else 1 + 4 * s.n * s.id.toNat) := by
  unfold mesS; rw [List.map_append, List.sum_append]; simp


def SAll (L : List Ent) (ss : List Sp) : Prop := ∀ s ∈ ss, SpOk L s

theorem SAll.last {L : List Ent} {ss : List Sp} {s : Sp} (h : SAll L (ss ++ [s])) : SpOk L s := h s (by simp)
theorem SAll.init {L : List Ent} {ss : List Sp} {s : Sp} (h : SAll L (ss ++ [s])) : SAll L ss := fun x hx => h x (by simp [hx])
theorem SAll.push {L : List Ent} {ss : List Sp} {s : Sp} (h : SAll L ss) (hs : SpOk L s) : SAll L (ss ++ [s]) := fun x hx => by
  rcases List.mem_append.1 hx with h1 | h1
  · exact h x h1
  · rw [List.mem_singleton.1 h1]; exact hs

/-- Nothing to read. -/
theorem spT_none {L : List Ent} {s : Sp} (h : s.n = 0 ∨ s.times = 0) : spT L s = [] := by
  unfold spT
  rcases h with h | h
  · rw [h, rngT_zero]
    induction s.times with
    | zero => rfl
    | succ k ih => rw [reps_succ, ih]; rfl
  · rw [h]; rfl

/-- The whole text. -/
theorem spT_all {L : List Ent} {s : Sp} (h : SpOk L s) (hn : s.n = (txt L s.id).length) : spT L s = reps (txt L s.id) s.times := by
  have h1 := h.fit
  unfold spT
  rw [hn, show s.from_ = 0 by omega, rngT_all]

theorem SpOk.times {L : List Ent} {s : Sp} (h : SpOk L s) (hn : s.n ≠ (txt L s.id).length) : s.times = 1 := by
  rcases h.one with e | e
  · exact e
  · exact absurd e.2 hn

/-- The parts of a range of a pair. -/
theorem pair_parts {L : List Ent} (hS : SOk L) (hD : DOk L) {ss : List Sp} {s : Sp} (h : SAll L (ss ++ [s])) (hn : s.n ≠ (txt L s.id).length) (h1 : s.n ≠ 0) (h2 : (entAt L s.id).rule.kind = 2) (g : Nat) (hg : g = min ((txt L (entAt L s.id).rule.left).length - s.from_) s.n) :
    SAll L (ss ++ [⟨(entAt L s.id).rule.right, s.from_ - (txt L (entAt L s.id).rule.left).length, s.n - g, 1⟩, ⟨(entAt L s.id).rule.left, min s.from_ (txt L (entAt L s.id).rule.left).length, g, 1⟩]) ∧
    restS L (ss ++ [⟨(entAt L s.id).rule.right, s.from_ - (txt L (entAt L s.id).rule.left).length, s.n - g, 1⟩, ⟨(entAt L s.id).rule.left, min s.from_ (txt L (entAt L s.id).rule.left).length, g, 1⟩]) = restS L (ss ++ [s]) ∧
    mesS (ss ++ [⟨(entAt L s.id).rule.right, s.from_ - (txt L (entAt L s.id).rule.left).length, s.n - g, 1⟩, ⟨(entAt L s.id).rule.left, min s.from_ (txt L (entAt L s.id).rule.left).length, g, 1⟩]) < mesS (ss ++ [s]) := by
  have hs := h.last
  have hk := hs.kn
  have ht := hs.times hn
  have hf := hs.fit
  have h0 : s.id ≠ 0 := fun e => by rw [e, txt_zero] at hf; simp at hf; omega
  obtain ⟨k1, k2⟩ : (1 ≤ (entAt L s.id).rule.left ∧ (entAt L s.id).rule.left < s.id) ∧ (1 ≤ (entAt L s.id).rule.right ∧ (entAt L s.id).rule.right < s.id) := by
    rcases hD.at s.id hk h0 with ⟨e, _⟩ | ⟨_, e, _⟩ | ⟨e, _⟩
    · omega
    · exact ⟨⟨e.1, e.2.1⟩, e.2.2⟩
    · omega
  have hl := txt_pair hD hk h0 h2
  have hll := congrArg List.length hl
  rw [List.length_append] at hll
  have hkn := hk.2
  have e : ∀ (x y : Sp), ss ++ [x, y] = (ss ++ [x]) ++ [y] := fun x y => by simp
  rw [e]
  refine ⟨(h.init.push ⟨⟨by show (0 : Int) ≤ (entAt L s.id).rule.right; omega, by show (entAt L s.id).rule.right ≤ _; omega⟩, ?_, .inl rfl⟩).push ⟨⟨by show (0 : Int) ≤ (entAt L s.id).rule.left; omega, by show (entAt L s.id).rule.left ≤ _; omega⟩, ?_, .inl rfl⟩, ?_, ?_⟩
  · show s.from_ - _ + (s.n - g) ≤ (txt L (entAt L s.id).rule.right).length
    omega
  · show min s.from_ _ + g ≤ (txt L (entAt L s.id).rule.left).length
    omega
  · rw [restS_push, restS_push, restS_push, ← List.append_assoc]
    congr 1
    show reps _ 1 ++ reps _ 1 = reps _ _
    rw [ht, reps_one, reps_one, reps_one]
    show rngT _ _ _ ++ rngT _ _ _ = rngT _ _ _
    rw [hl, rngT_append _ _ hg (by omega)]
  · rw [mesS_push, mesS_push, mesS_push, ht]
    show mesS ss + (1 + 4 * (s.n - g) * (entAt L s.id).rule.right.toNat) + (1 + 4 * g * (entAt L s.id).rule.left.toNat) < mesS ss + (1 + 4 * s.n * s.id.toNat)
    have m1 : 4 * (s.n - g) * (entAt L s.id).rule.right.toNat ≤ 4 * (s.n - g) * (s.id.toNat - 1) := Nat.mul_le_mul_left _ (by omega)
    have m2 : 4 * g * (entAt L s.id).rule.left.toNat ≤ 4 * g * (s.id.toNat - 1) := Nat.mul_le_mul_left _ (by omega)
    have m3 : 4 * (s.n - g) * (s.id.toNat - 1) + 4 * g * (s.id.toNat - 1) = 4 * s.n * (s.id.toNat - 1) := by
      rw [← Nat.add_mul]; congr 1; omega
    have m4 : 4 * s.n * s.id.toNat = 4 * s.n * (s.id.toNat - 1) + 4 * s.n := by
      obtain ⟨q, hq⟩ : ∃ q, s.id.toNat = q + 1 := ⟨s.id.toNat - 1, by omega⟩
      rw [hq, Nat.mul_succ, Nat.add_sub_cancel]
    omega

/-- The parts of a range of a power, within one copy. -/
theorem pow_part1 {L : List Ent} (hS : SOk L) (hD : DOk L) {ss : List Sp} {s : Sp} (h : SAll L (ss ++ [s])) (hn : s.n ≠ (txt L s.id).length) (h1 : s.n ≠ 0) (h3 : (entAt L s.id).rule.kind = 3) (hfit : s.from_ % (txt L (entAt L s.id).rule.left).length + s.n ≤ (txt L (entAt L s.id).rule.left).length) :
    SAll L (ss ++ [⟨(entAt L s.id).rule.left, s.from_ % (txt L (entAt L s.id).rule.left).length, s.n, 1⟩]) ∧
    restS L (ss ++ [⟨(entAt L s.id).rule.left, s.from_ % (txt L (entAt L s.id).rule.left).length, s.n, 1⟩]) = restS L (ss ++ [s]) ∧
    mesS (ss ++ [⟨(entAt L s.id).rule.left, s.from_ % (txt L (entAt L s.id).rule.left).length, s.n, 1⟩]) < mesS (ss ++ [s]) := by
  have hs := h.last
  have hk := hs.kn
  have ht := hs.times hn
  have hf := hs.fit
  have h0 : s.id ≠ 0 := fun e => by rw [e, txt_zero] at hf; simp at hf; omega
  have k1 : 1 ≤ (entAt L s.id).rule.left ∧ (entAt L s.id).rule.left < s.id := by
    rcases hD.at s.id hk h0 with ⟨e, _⟩ | ⟨e, _⟩ | ⟨_, e, _⟩
    · omega
    · omega
    · exact e
  have hl := txt_pow hD hk h0 h3
  have hll := congrArg List.length hl
  rw [reps_len] at hll
  have hkn := hk.2
  have hkl : isKnown L (entAt L s.id).rule.left := ⟨by omega, by omega⟩
  have hp := txt_pos hS hD hkl (by omega)
  refine ⟨h.init.push ⟨hkl, hfit, .inl rfl⟩, ?_, ?_⟩
  · rw [restS_push, restS_push]
    congr 1
    show reps _ 1 = reps _ _
    rw [ht, reps_one, reps_one]
    show rngT _ _ _ = rngT _ _ _
    rw [hl, rngT_reps1 _ hp (by omega) (by omega) hfit]
  · rw [mesS_push, mesS_push, ht]
    show mesS ss + (1 + 4 * s.n * (entAt L s.id).rule.left.toNat) < mesS ss + (1 + 4 * s.n * s.id.toNat)
    have : 4 * s.n * (entAt L s.id).rule.left.toNat < 4 * s.n * s.id.toNat := Nat.mul_lt_mul_of_pos_left (by omega) (by omega)
    omega

/-- The parts of a range of a power, over its copies. -/
theorem pow_part3 {L : List Ent} (hS : SOk L) (hD : DOk L) {ss : List Sp} {s : Sp} (h : SAll L (ss ++ [s])) (hn : s.n ≠ (txt L s.id).length) (h1 : s.n ≠ 0) (h3 : (entAt L s.id).rule.kind = 3) (k f hd : Nat) (ek : k = (txt L (entAt L s.id).rule.left).length) (ef : f = s.from_ % k) (hfit : k < f + s.n) (ehd : hd = (k - f) % k) :
    SAll L (ss ++ [⟨(entAt L s.id).rule.left, 0, (s.n - hd) % k, 1⟩, ⟨(entAt L s.id).rule.left, 0, k, (s.n - hd) / k⟩, ⟨(entAt L s.id).rule.left, f, hd, 1⟩]) ∧
    restS L (ss ++ [⟨(entAt L s.id).rule.left, 0, (s.n - hd) % k, 1⟩, ⟨(entAt L s.id).rule.left, 0, k, (s.n - hd) / k⟩, ⟨(entAt L s.id).rule.left, f, hd, 1⟩]) = restS L (ss ++ [s]) ∧
    mesS (ss ++ [⟨(entAt L s.id).rule.left, 0, (s.n - hd) % k, 1⟩, ⟨(entAt L s.id).rule.left, 0, k, (s.n - hd) / k⟩, ⟨(entAt L s.id).rule.left, f, hd, 1⟩]) < mesS (ss ++ [s]) ∧ hd ≤ s.n ∧ 1 ≤ k := by
  have hs := h.last
  have hk := hs.kn
  have ht := hs.times hn
  have hf := hs.fit
  have h0 : s.id ≠ 0 := fun e => by rw [e, txt_zero] at hf; simp at hf; omega
  have k1 : 1 ≤ (entAt L s.id).rule.left ∧ (entAt L s.id).rule.left < s.id := by
    rcases hD.at s.id hk h0 with ⟨e, _⟩ | ⟨e, _⟩ | ⟨_, e, _⟩
    · omega
    · omega
    · exact e
  have hl := txt_pow hD hk h0 h3
  have hll := congrArg List.length hl
  rw [reps_len] at hll
  have hkn := hk.2
  have hkl : isKnown L (entAt L s.id).rule.left := ⟨by omega, by omega⟩
  have hp := txt_pos hS hD hkl (by omega)
  have ek2 := ek
  subst ek
  subst ef
  obtain ⟨e1, e2, e3⟩ := rngT_reps3 _ hp (by omega) (by omega) hfit ehd (m := (entAt L s.id).rule.times.toNat)
  have hm := Nat.mod_lt (s.n - hd) (show 0 < (txt L (entAt L s.id).rule.left).length by omega)
  have hdm := Nat.div_add_mod (s.n - hd) (txt L (entAt L s.id).rule.left).length
  have e : ∀ (x y z : Sp), ss ++ [x, y, z] = ((ss ++ [x]) ++ [y]) ++ [z] := fun x y z => by simp
  rw [e]
  refine ⟨((h.init.push ⟨hkl, by show 0 + (s.n - hd) % (txt L (entAt L s.id).rule.left).length ≤ (txt L (entAt L s.id).rule.left).length; omega, .inl rfl⟩).push ⟨hkl, by show 0 + (txt L (entAt L s.id).rule.left).length ≤ (txt L (entAt L s.id).rule.left).length; omega, .inr ⟨rfl, rfl⟩⟩).push ⟨hkl, e3, .inl rfl⟩, ?_, ?_, e2, hp⟩
  · rw [restS_push, restS_push, restS_push, restS_push, ← List.append_assoc, ← List.append_assoc]
    congr 1
    show (reps _ 1 ++ reps (rngT _ 0 _) _) ++ reps _ 1 = reps _ _
    rw [ht, reps_one, reps_one, reps_one]
    show (rngT _ _ _ ++ reps (rngT _ 0 _) _) ++ rngT _ 0 _ = rngT _ _ _
    rw [hl, e1, rngT_all, List.append_assoc]
  · rw [mesS_push, mesS_push, mesS_push, mesS_push, ht]
    show mesS ss + (1 + 4 * ((s.n - hd) % _) * (entAt L s.id).rule.left.toNat) + (if (s.n - hd) / _ = 0 then 1 else 1 + 4 * (txt L (entAt L s.id).rule.left).length * (entAt L s.id).rule.left.toNat) + (1 + 4 * hd * (entAt L s.id).rule.left.toNat) < mesS ss + (1 + 4 * s.n * s.id.toNat)
    generalize (txt L (entAt L s.id).rule.left).length = K at *
    have m0 : 4 * s.n * s.id.toNat = 4 * s.n * (s.id.toNat - 1) + 4 * s.n := by
      obtain ⟨q, hq⟩ : ∃ q, s.id.toNat = q + 1 := ⟨s.id.toNat - 1, by omega⟩
      rw [hq, Nat.mul_succ, Nat.add_sub_cancel]
    have mm : ∀ x : Nat, 4 * x * (entAt L s.id).rule.left.toNat ≤ 4 * x * (s.id.toNat - 1) := fun x => Nat.mul_le_mul_left _ (by omega)
    have c1 := mm ((s.n - hd) % K)
    have c2 := mm K
    have c3 := mm hd
    generalize s.id.toNat - 1 = q at *
    have hsum : ∀ t : Nat, (s.n - hd) % K + t + hd ≤ s.n → 4 * ((s.n - hd) % K) * q + 4 * t * q + 4 * hd * q ≤ 4 * s.n * q := fun t htt => by
      rw [← Nat.add_mul, ← Nat.add_mul]
      exact Nat.mul_le_mul_right _ (by omega)
    by_cases hz : (s.n - hd) / K = 0
    · rw [if_pos hz]
      have hle := Nat.mod_le (s.n - hd) K
      have := hsum 0 (by omega)
      omega
    · rw [if_neg hz]
      have h4 : K * 1 ≤ K * ((s.n - hd) / K) := Nat.mul_le_mul_left _ (Nat.pos_of_ne_zero hz)
      have := hsum K (by omega)
      omega

end Go.Proofs.YtodmpcnpedpheaaGreatDoor

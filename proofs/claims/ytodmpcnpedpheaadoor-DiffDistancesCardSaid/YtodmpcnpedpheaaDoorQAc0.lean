/- Ranges of texts (plain): how a range of a pair or of a power divides. -/
import Derived.Test.YtodmpcnpedpheaaDoorQDf1
import Derived.Ground.Names7Prog
import Derived.Shelf.Spec.TrailingZeros
import Derived.Test.YtodmpcnpedpheaaDoorProg
import Derived.Test.YtodmpcnpedpheaaDoorQSg3
import Derived.Laws.BitsAllLaws
import Derived.Laws.Bits64
set_option linter.unusedSimpArgs false
set_option linter.unusedVariables false
namespace Go.Proofs.YtodmpcnpedpheaaDoor
open Go.RowKit

/-- The letters of a range. -/
def rngT (t : List Int) (f n : Nat) : List Int := (t.drop f).take n

theorem rngT_len {t : List Int} {f n : Nat} (h : f + n ≤ t.length) : (rngT t f n).length = n := by
  unfold rngT; rw [List.length_take, List.length_drop]; omega
theorem rngT_zero (t : List Int) (f : Nat) : rngT t f 0 = [] := by unfold rngT; rw [List.take_zero]
theorem rngT_all (t : List Int) : rngT t 0 t.length = t := by unfold rngT; simp

theorem rngT_append (s t : List Int) {f n g : Nat} (hg : g = min (s.length - f) n) (hf : f + n ≤ s.length + t.length) : rngT (s ++ t) f n = rngT s (min f s.length) g ++ rngT t (f - s.length) (n - g) := by
  unfold rngT
  rw [List.drop_append, List.take_append, List.length_drop]
  by_cases h : f ≤ s.length
  · rw [Nat.min_eq_left h]
    congr 1
    · by_cases h2 : n ≤ s.length - f
      · rw [hg, Nat.min_eq_right h2]
      · rw [List.take_of_length_le (by rw [List.length_drop]; omega), List.take_of_length_le (by rw [List.length_drop]; omega)]
    · congr 1
      omega
  · rw [Nat.min_eq_right (by omega), List.drop_of_length_le (by omega : s.length ≤ f), List.drop_length]
    simp only [List.take_nil, List.nil_append]
    congr 1
    omega

theorem take_reps (t : List Int) (h : 1 ≤ t.length) : ∀ (j n : Nat), n ≤ j * t.length → (reps t j).take n = reps t (n / t.length) ++ t.take (n % t.length)
  | 0, n => by
    intro hn
    have : n = 0 := by omega
    subst this
    simp [reps]
  | j + 1, n => by
    intro hn
    rw [reps_succ, List.take_append]
    by_cases hlt : n < t.length
    · rw [Nat.div_eq_of_lt hlt, Nat.mod_eq_of_lt hlt, show n - t.length = 0 by omega, List.take_zero, List.append_nil, reps_zero, List.nil_append]
    · have hle : t.length ≤ n := by omega
      rw [Nat.add_mul, Nat.one_mul] at hn
      rw [List.take_of_length_le hle, take_reps t h j (n - t.length) (by omega)]
      rw [Nat.div_eq_sub_div (by omega) hle, Nat.mod_eq_sub_mod hle, reps_succ, List.append_assoc]

theorem drop_reps2 (t : List Int) (h : 1 ≤ t.length) : ∀ (m f : Nat), f < m * t.length → (reps t m).drop f = t.drop (f % t.length) ++ reps t (m - f / t.length - 1)
  | 0, f => by intro hf; omega
  | m + 1, f => by
    intro hf
    rw [Nat.add_mul, Nat.one_mul] at hf
    rw [reps_succ, List.drop_append]
    by_cases hlt : f < t.length
    · rw [Nat.div_eq_of_lt hlt, Nat.mod_eq_of_lt hlt, show f - t.length = 0 by omega, List.drop_zero, show m + 1 - 0 - 1 = m by omega]
    · have hle : t.length ≤ f := by omega
      have hd : f / t.length = (f - t.length) / t.length + 1 := Nat.div_eq_sub_div (by omega) hle
      rw [List.drop_of_length_le hle, List.nil_append, drop_reps2 t h m (f - t.length) (by omega), Nat.mod_eq_sub_mod hle, hd]
      congr 2
      omega

/-- A range of a power within one copy. -/
theorem rngT_reps1 (t : List Int) (h : 1 ≤ t.length) {m f n : Nat} (h1 : 1 ≤ n) (hf : f + n ≤ m * t.length) (hn : f % t.length + n ≤ t.length) : rngT (reps t m) f n = rngT t (f % t.length) n := by
  unfold rngT
  rw [drop_reps2 t h m f (by omega), List.take_append_of_le_length (by rw [List.length_drop]; omega)]

theorem div_lt_m {m k f n : Nat} (h : 1 ≤ k) (h1 : 1 ≤ n) (hf : f + n ≤ m * k) : f / k < m := by
  rw [Nat.div_lt_iff_lt_mul (by omega)]; omega

/-- A range of a power over its copies: the end of one, whole ones, the beginning of one. -/
theorem rngT_reps3 (t : List Int) (h : 1 ≤ t.length) {m f n hd : Nat} (h1 : 1 ≤ n) (hf : f + n ≤ m * t.length) (hn : t.length < f % t.length + n) (hhd : hd = (t.length - f % t.length) % t.length) :
    rngT (reps t m) f n = rngT t (f % t.length) hd ++ (reps t ((n - hd) / t.length) ++ rngT t 0 ((n - hd) % t.length)) ∧ hd ≤ n ∧ f % t.length + hd ≤ t.length := by
  have hml := Nat.mod_lt f (show 0 < t.length by omega)
  have hdm := Nat.div_add_mod f t.length
  have hq := div_lt_m h h1 hf
  have hrest : ∀ j, m - f / t.length - 1 = j → m * t.length = f / t.length * t.length + t.length + j * t.length := fun j hj => by
    obtain rfl : m = f / t.length + 1 + j := by omega
    rw [Nat.add_mul, Nat.add_mul, Nat.one_mul]
  have hj := hrest _ rfl
  have e0 : f / t.length * t.length = t.length * (f / t.length) := Nat.mul_comm _ _
  have ed : rngT (reps t m) f n = (t.drop (f % t.length) ++ reps t (m - f / t.length - 1)).take n := by
    unfold rngT
    rw [drop_reps2 t h m f (by omega)]
  by_cases hz : f % t.length = 0
  · have hd0 : hd = 0 := by rw [hhd, hz, Nat.sub_zero, Nat.mod_self]
    refine ⟨?_, by omega, by omega⟩
    rw [ed, hz, List.drop_zero, ← reps_succ, take_reps t h _ n (by rw [Nat.add_mul, Nat.one_mul]; omega), hd0, rngT_zero, List.nil_append, Nat.sub_zero]
    unfold rngT
    rw [List.drop_zero]
  · have hdd : hd = t.length - f % t.length := by rw [hhd]; exact Nat.mod_eq_of_lt (by omega)
    refine ⟨?_, by omega, by omega⟩
    rw [ed, List.take_append, List.take_of_length_le (by rw [List.length_drop]; omega), List.length_drop, ← hdd, take_reps t h _ (n - hd) (by omega)]
    congr 1
    unfold rngT
    rw [hdd, List.take_of_length_le (by rw [List.length_drop]; omega)]

/-- A range of a text that is still to be read. -/
structure Sp where
  id : Int
  from_ : Nat
  n : Nat
  times : Nat

def spT (L : List Ent) (s : Sp) : List Int := reps (rngT (txt L s.id) s.from_ s.n) s.times
structure SpOk (L : List Ent) (s : Sp) : Prop where
  kn : isKnown L s.id
  fit : s.from_ + s.n ≤ (txt L s.id).length
  one : s.times = 1 ∨ (s.from_ = 0 ∧ s.n = (txt L s.id).length)

/-- What is left to read: the last range is the next. -/
def restS (L : List Ent) (ss : List Sp) : List Int := (ss.reverse.map (spT L)).flatten
theorem restS_nil (L : List Ent) : restS L [] = [] := rfl
theorem restS_push (L : List Ent) (ss : List Sp) (s : Sp) : restS L (ss ++ [s]) = spT L s ++ restS L ss := by
  unfold restS; rw [List.reverse_append]; rfl
def mesS (ss : List Sp) : Nat := (ss.map fun s => if s.times = 0 then 1 else 1 + 4 * s.n * s.id.toNat).sum
theorem mesS_push (ss : List Sp) (s : Sp) : mesS (ss ++ [s]) = mesS ss + (if s.times = 0 then 1 else 1 + 4 * s.n * s.id.toNat) := by
  unfold mesS; rw [List.map_append, List.sum_append]; simp


def SAll (L : List Ent) (ss : List Sp) : Prop := ∀ s ∈ ss, SpOk L s

theorem SAll.last {L : List Ent} {ss : List Sp} {s : Sp} (h : SAll L (ss ++ [s])) : SpOk L s := h s (by simp)
theorem SAll.init {L : List Ent} {ss : List Sp} {s : Sp} (h : SAll L (ss ++ [s])) : SAll L ss := fun x hx => h x (by simp [hx])
theorem SAll.push {L : List Ent} {ss : List Sp} {s : Sp} (h : SAll L ss) (hs : SpOk L s) : SAll L (ss ++ [s]) := fun x hx => by
  rcases List.mem_append.1 hx with h1 | h1
  · exact h x h1
  · rw [List.mem_singleton.1 h1]; exact hs

/-- Nothing to read. -/
theorem spT_none {L : List Ent} {s : Sp} (h : s.n = 0 ∨ s.times = 0) : spT L s = [] := by
  unfold spT
  rcases h with h | h
  · rw [h, rngT_zero]
    induction s.times with
    | zero => rfl
    | succ k ih => rw [reps_succ, ih]; rfl
  · rw [h]; rfl

/-- The whole text. -/
theorem spT_all {L : List Ent} {s : Sp} (h : SpOk L s) (hn : s.n = (txt L s.id).length) : spT L s = reps (txt L s.id) s.times := by
  have h1 := h.fit
  unfold spT
  rw [hn, show s.from_ = 0 by omega, rngT_all]

theorem SpOk.times {L : List Ent} {s : Sp} (h : SpOk L s) (hn : s.n ≠ (txt L s.id).length) : s.times = 1 := by
  rcases h.one with e | e
  · exact e
  · exact absurd e.2 hn

/-- The parts of a range of a pair. -/
theorem pair_parts {L : List Ent} (hS : SOk L) (hD : DOk L) {ss : List Sp} {s : Sp} (h : SAll L (ss ++ [s])) (hn : s.n ≠ (txt L s.id).length) (h1 : s.n ≠ 0) (h2 : (entAt L s.id).rule.kind = 2) (g : Nat) (hg : g = min ((txt L (entAt L s.id).rule.left).length - s.from_) s.n) :
    SAll L (ss ++ [⟨(entAt L s.id).rule.right, s.from_ - (txt L (entAt L s.id).rule.left).length, s.n - g, 1⟩, ⟨(entAt L s.id).rule.left, min s.from_ (txt L (entAt L s.id).rule.left).length, g, 1⟩]) ∧
    restS L (ss ++ [⟨(entAt L s.id).rule.right, s.from_ - (txt L (entAt L s.id).rule.left).length, s.n - g, 1⟩, ⟨(entAt L s.id).rule.left, min s.from_ (txt L (entAt L s.id).rule.left).length, g, 1⟩]) = restS L (ss ++ [s]) ∧
    mesS (ss ++ [⟨(entAt L s.id).rule.right, s.from_ - (txt L (entAt L s.id).rule.left).length, s.n - g, 1⟩, ⟨(entAt L s.id).rule.left, min s.from_ (txt L (entAt L s.id).rule.left).length, g, 1⟩]) < mesS (ss ++ [s]) := by
  have hs := h.last
  have hk := hs.kn
  have ht := hs.times hn
  have hf := hs.fit
  have h0 : s.id ≠ 0 := fun e => by rw [e, txt_zero] at hf; simp at hf; omega
  obtain ⟨k1, k2⟩ : (1 ≤ (entAt L s.id).rule.left ∧ (entAt L s.id).rule.left < s.id) ∧ (1 ≤ (entAt L s.id).rule.right ∧ (entAt L s.id).rule.right < s.id) := by
    rcases hD.at s.id hk h0 with ⟨e, _⟩ | ⟨_, e, _⟩ | ⟨e, _⟩
    · omega
    · exact ⟨⟨e.1, e.2.1⟩, e.2.2⟩
    · omega
  have hl := txt_pair hD hk h0 h2
  have hll := congrArg List.length hl
  rw [List.length_append] at hll
  have hkn := hk.2
  have e : ∀ (x y : Sp), ss ++ [x, y] = (ss ++ [x]) ++ [y] := fun x y => by simp
  rw [e]
  refine ⟨(h.init.push ⟨⟨by show (0 : Int) ≤ (entAt L s.id).rule.right; omega, by show (entAt L s.id).rule.right ≤ _; omega⟩, ?_, .inl rfl⟩).push ⟨⟨by show (0 : Int) ≤ (entAt L s.id).rule.left; omega, by show (entAt L s.id).rule.left ≤ _; omega⟩, ?_, .inl rfl⟩, ?_, ?_⟩
  · show s.from_ - _ + (s.n - g) ≤ (txt L (entAt L s.id).rule.right).length
    omega
  · show min s.from_ _ + g ≤ (txt L (entAt L s.id).rule.left).length
    omega
  · rw [restS_push, restS_push, restS_push, ← List.append_assoc]
    congr 1
    show reps _ 1 ++ reps _ 1 = reps _ _
    rw [ht, reps_one, reps_one, reps_one]
    show rngT _ _ _ ++ rngT _ _ _ = rngT _ _ _
    rw [hl, rngT_append _ _ hg (by omega)]
  · rw [mesS_push, mesS_push, mesS_push, ht]
    show mesS ss + (1 + 4 * (s.n - g) * (entAt L s.id).rule.right.toNat) + (1 + 4 * g * (entAt L s.id).rule.left.toNat) < mesS ss + (1 + 4 * s.n * s.id.toNat)
    have m1 : 4 * (s.n - g) * (entAt L s.id).rule.right.toNat ≤ 4 * (s.n - g) * (s.id.toNat - 1) := Nat.mul_le_mul_left _ (by omega)
    have m2 : 4 * g * (entAt L s.id).rule.left.toNat ≤ 4 * g * (s.id.toNat - 1) := Nat.mul_le_mul_left _ (by omega)
    have m3 : 4 * (s.n - g) * (s.id.toNat - 1) + 4 * g * (s.id.toNat - 1) = 4 * s.n * (s.id.toNat - 1) := by
      rw [← Nat.add_mul]; congr 1; omega
    have m4 : 4 * s.n * s.id.toNat = 4 * s.n * (s.id.toNat - 1) + 4 * s.n := by
      obtain ⟨q, hq⟩ : ∃ q, s.id.toNat = q + 1 := ⟨s.id.toNat - 1, by omega⟩
      rw [hq, Nat.mul_succ, Nat.add_sub_cancel]
    omega

/-- The parts of a range of a power, within one copy. -/
theorem pow_part1 {L : List Ent} (hS : SOk L) (hD : DOk L) {ss : List Sp} {s : Sp} (h : SAll L (ss ++ [s])) (hn : s.n ≠ (txt L s.id).length) (h1 : s.n ≠ 0) (h3 : (entAt L s.id).rule.kind = 3) (hfit : s.from_ % (txt L (entAt L s.id).rule.left).length + s.n ≤ (txt L (entAt L s.id).rule.left).length) :
    SAll L (ss ++ [⟨(entAt L s.id).rule.left, s.from_ % (txt L (entAt L s.id).rule.left).length, s.n, 1⟩]) ∧
    restS L (ss ++ [⟨(entAt L s.id).rule.left, s.from_ % (txt L (entAt L s.id).rule.left).length, s.n, 1⟩]) = restS L (ss ++ [s]) ∧
    mesS (ss ++ [⟨(entAt L s.id).rule.left, s.from_ % (txt L (entAt L s.id).rule.left).length, s.n, 1⟩]) < mesS (ss ++ [s]) := by
  have hs := h.last
  have hk := hs.kn
  have ht := hs.times hn
  have hf := hs.fit
  have h0 : s.id ≠ 0 := fun e => by rw [e, txt_zero] at hf; simp at hf; omega
  have k1 : 1 ≤ (entAt L s.id).rule.left ∧ (entAt L s.id).rule.left < s.id := by
    rcases hD.at s.id hk h0 with ⟨e, _⟩ | ⟨e, _⟩ | ⟨_, e, _⟩
    · omega
    · omega
    · exact e
  have hl := txt_pow hD hk h0 h3
  have hll := congrArg List.length hl
  rw [reps_len] at hll
  have hkn := hk.2
  have hkl : isKnown L (entAt L s.id).rule.left := ⟨by omega, by omega⟩
  have hp := txt_pos hS hD hkl (by omega)
  refine ⟨h.init.push ⟨hkl, hfit, .inl rfl⟩, ?_, ?_⟩
  · rw [restS_push, restS_push]
    congr 1
    show reps _ 1 = reps _ _
    rw [ht, reps_one, reps_one]
    show rngT _ _ _ = rngT _ _ _
    rw [hl, rngT_reps1 _ hp (by omega) (by omega) hfit]
  · rw [mesS_push, mesS_push, ht]
    show mesS ss + (1 + 4 * s.n * (entAt L s.id).rule.left.toNat) < mesS ss + (1 + 4 * s.n * s.id.toNat)
    have : 4 * s.n * (entAt L s.id).rule.left.toNat < 4 * s.n * s.id.toNat := Nat.mul_lt_mul_of_pos_left (by omega) (by omega)
    omega

/-- The parts of a range of a power, over its copies. -/
theorem pow_part3 {L : List Ent} (hS : SOk L) (hD : DOk L) {ss : List Sp} {s : Sp} (h : SAll L (ss ++ [s])) (hn : s.n ≠ (txt L s.id).length) (h1 : s.n ≠ 0) (h3 : (entAt L s.id).rule.kind = 3) (k f hd : Nat) (ek : k = (txt L (entAt L s.id).rule.left).length) (ef : f = s.from_ % k) (hfit : k < f + s.n) (ehd : hd = (k - f) % k) :
    SAll L (ss ++ [⟨(entAt L s.id).rule.left, 0, (s.n - hd) % k, 1⟩, ⟨(entAt L s.id).rule.left, 0, k, (s.n - hd) / k⟩, ⟨(entAt L s.id).rule.left, f, hd, 1⟩]) ∧
    restS L (ss ++ [⟨(entAt L s.id).rule.left, 0, (s.n - hd) % k, 1⟩, ⟨(entAt L s.id).rule.left, 0, k, (s.n - hd) / k⟩, ⟨(entAt L s.id).rule.left, f, hd, 1⟩]) = restS L (ss ++ [s]) ∧
    mesS (ss ++ [⟨(entAt L s.id).rule.left, 0, (s.n - hd) % k, 1⟩, ⟨(entAt L s.id).rule.left, 0, k, (s.n - hd) / k⟩, ⟨(entAt L s.id).rule.left, f, hd, 1⟩]) < mesS (ss ++ [s]) ∧ hd ≤ s.n ∧ 1 ≤ k := by
  have hs := h.last
  have hk := hs.kn
  have ht := hs.times hn
  have hf := hs.fit
  have h0 : s.id ≠ 0 := fun e => by rw [e, txt_zero] at hf; simp at hf; omega
  have k1 : 1 ≤ (entAt L s.id).rule.left ∧ (entAt L s.id).rule.left < s.id := by
    rcases hD.at s.id hk h0 with ⟨e, _⟩ | ⟨e, _⟩ | ⟨_, e, _⟩
    · omega
    · omega
    · exact e
  have hl := txt_pow hD hk h0 h3
  have hll := congrArg List.length hl
  rw [reps_len] at hll
  have hkn := hk.2
  have hkl : isKnown L (entAt L s.id).rule.left := ⟨by omega, by omega⟩
  have hp := txt_pos hS hD hkl (by omega)
  have ek2 := ek
  subst ek
  subst ef
  obtain ⟨e1, e2, e3⟩ := rngT_reps3 _ hp (by omega) (by omega) hfit ehd (m := (entAt L s.id).rule.times.toNat)
  have hm := Nat.mod_lt (s.n - hd) (show 0 < (txt L (entAt L s.id).rule.left).length by omega)
  have hdm := Nat.div_add_mod (s.n - hd) (txt L (entAt L s.id).rule.left).length
  have e : ∀ (x y z : Sp), ss ++ [x, y, z] = ((ss ++ [x]) ++ [y]) ++ [z] := fun x y z => by simp
  rw [e]
  refine ⟨((h.init.push ⟨hkl, by show 0 + (s.n - hd) % (txt L (entAt L s.id).rule.left).length ≤ (txt L (entAt L s.id).rule.left).length; omega, .inl rfl⟩).push ⟨hkl, by show 0 + (txt L (entAt L s.id).rule.left).length ≤ (txt L (entAt L s.id).rule.left).length; omega, .inr ⟨rfl, rfl⟩⟩).push ⟨hkl, e3, .inl rfl⟩, ?_, ?_, e2, hp⟩
  · rw [restS_push, restS_push, restS_push, restS_push, ← List.append_assoc, ← List.append_assoc]
    congr 1
    show (reps _ 1 ++ reps (rngT _ 0 _) _) ++ reps _ 1 = reps _ _
    rw [ht, reps_one, reps_one, reps_one]
    show (rngT _ _ _ ++ reps (rngT _ 0 _) _) ++ rngT _ 0 _ = rngT _ _ _
    rw [hl, e1, rngT_all, List.append_assoc]
  · rw [mesS_push, mesS_push, mesS_push, mesS_push, ht]
    show mesS ss + (1 + 4 * ((s.n - hd) % _) * (entAt L s.id).rule.left.toNat) + (if (s.n - hd) / _ = 0 then 1 else 1 + 4 * (txt L (entAt L s.id).rule.left).length * (entAt L s.id).rule.left.toNat) + (1 + 4 * hd * (entAt L s.id).rule.left.toNat) < mesS ss + (1 + 4 * s.n * s.id.toNat)
    generalize (txt L (entAt L s.id).rule.left).length = K at *
    have m0 : 4 * s.n * s.id.toNat = 4 * s.n * (s.id.toNat - 1) + 4 * s.n := by
      obtain ⟨q, hq⟩ : ∃ q, s.id.toNat = q + 1 := ⟨s.id.toNat - 1, by omega⟩
      rw [hq, Nat.mul_succ, Nat.add_sub_cancel]
    have mm : ∀ x : Nat, 4 * x * (entAt L s.id).rule.left.toNat ≤ 4 * x * (s.id.toNat - 1) := fun x => Nat.mul_le_mul_left _ (by omega)
    have c1 := mm ((s.n - hd) % K)
    have c2 := mm K
    have c3 := mm hd
    generalize s.id.toNat - 1 = q at *
    have hsum : ∀ t : Nat, (s.n - hd) % K + t + hd ≤ s.n → 4 * ((s.n - hd) % K) * q + 4 * t * q + 4 * hd * q ≤ 4 * s.n * q := fun t htt => by
      rw [← Nat.add_mul, ← Nat.add_mul]
      exact Nat.mul_le_mul_right _ (by omega)
    by_cases hz : (s.n - hd) / K = 0
    · rw [if_pos hz]
      have hle := Nat.mod_le (s.n - hd) K
      have := hsum 0 (by omega)
      omega
    · rw [if_neg hz]
      have h4 : K * 1 ≤ K * ((s.n - hd) / K) := Nat.mul_le_mul_left _ (Nat.pos_of_ne_zero hz)
      have := hsum K (by omega)
      omega

end Go.Proofs.YtodmpcnpedpheaaDoor

/- The contract of math/bits.TrailingZeros64: laid by program off the shelf. -/
namespace Go.Proofs
open Go.Shelf
def Tryd.laysTz_ren : Go.Shelf.Ren := ⟨fun | 29 => 95 | n => n, fun | 22 => 79 | 3 => 3 | 4 => 4 | 25 => 186 | 54 => 188 | 0 => 0 | 5 => 5 | n => n, fun | 1 => 0 | n => n⟩
theorem Tryd.laysTz : Go.Proofs.Lays7.n29 Tryd.prog Tryd.laysTz_ren := {
  mixed := by kernel_rfl
  f29 := Tryd.func95.trans (congrArg some (by kernel_rfl))
  t0 := Tryd.underlying0
  a0 := Tryd.isAgg0
  z0 := Tryd.sizeOf0
  v0 := Tryd.zeroValue0
  i0 := by kernel_rfl
  t3 := Tryd.underlying3
  a3 := Tryd.isAgg3
  z3 := Tryd.sizeOf3
  v3 := Tryd.zeroValue3
  i3 := by kernel_rfl
  t4 := Tryd.underlying4
  a4 := Tryd.isAgg4
  z4 := Tryd.sizeOf4
  v4 := Tryd.zeroValue4
  i4 := by kernel_rfl
  t5 := Tryd.underlying5
  a5 := Tryd.isAgg5
  z5 := Tryd.sizeOf5
  v5 := Tryd.zeroValue5
  i5 := by kernel_rfl
  t22 := Tryd.underlying79
  a22 := Tryd.isAgg79
  z22 := Tryd.sizeOf79
  v22 := Tryd.zeroValue79
  i22 := by kernel_rfl
  t25 := Tryd.underlying186
  a25 := Tryd.isAgg186
  z25 := Tryd.sizeOf186
  v25 := Tryd.zeroValue186
  i25 := by kernel_rfl
  t54 := Tryd.underlying188
  a54 := Tryd.isAgg188
  z54 := Tryd.sizeOf188
  g1 := by kernel_rfl }
open Go.RowKit in
theorem Tryd.bits_TrailingZeros64 (x : Nat) (hx : x < 18446744073709551616) (w : World) (hT : x ≠ 0 → TabAt 0 Lib.deBruijn64tab w) :
    Calls Tryd.prog 95 #[.int .u64 x] w fun e w' => e = .returned (.int .i64 (Lib.ctz 64 x)) ∧ w' = w := Any7.bits_TrailingZeros64 Tryd.laysTz x hx w hT
end Go.Proofs

/- The bits in which two keys differ, as the program reckons them (plain). -/
set_option linter.unusedSimpArgs false
set_option linter.unusedVariables false
namespace Go.Proofs.YtodmpcnpedpheaaDoor
open Go.RowKit

/-- The bits that differ, from a bit on. -/
def difB (x y k : Nat) : Nat := ((x ^^^ y) &&& 2305843009213693951) / 2 ^ k * 2 ^ k
/-- The same without one bit. -/
def difC (x y k : Nat) : Nat := difB x y k &&& (18446744073709551615 - 2 ^ k)

theorem testBit_61 (b : Nat) : (2305843009213693951 : Nat).testBit b = decide (b < 61) := by
  rw [show (2305843009213693951 : Nat) = 2 ^ 61 - 1 by decide, Nat.testBit_two_pow_sub_one]

theorem difB_bit (x y k b : Nat) : (difB x y k).testBit b = (decide (k ≤ b) && ((x.testBit b != y.testBit b) && decide (b < 61))) := by
  unfold difB
  rw [Nat.mul_comm, Nat.testBit_two_pow_mul, Nat.testBit_div_two_pow, Nat.testBit_and, Nat.testBit_xor, testBit_61]
  by_cases h : k ≤ b
  · rw [show b - k + k = b by omega]
  · simp [h]

theorem difB_lt (x y k : Nat) : difB x y k < 2305843009213693952 := by
  unfold difB
  have h1 : (x ^^^ y) &&& 2305843009213693951 < 2 ^ 61 := Nat.and_lt_two_pow _ (by decide)
  have h2 := Nat.div_mul_le_self ((x ^^^ y) &&& 2305843009213693951) (2 ^ k)
  have e : (2 : Nat) ^ 61 = 2305843009213693952 := by decide
  omega

theorem notBit_bit {k b : Nat} (hk : k < 61) (hb : b < 64) : (18446744073709551615 - 2 ^ k).testBit b = decide (b ≠ k) := by
  have h := Nat.testBit_two_pow_sub_succ (x := 2 ^ k) (n := 64) (Nat.pow_lt_pow_right (by decide) (by omega)) b
  rw [show (2 : Nat) ^ 64 - (2 ^ k + 1) = 18446744073709551615 - 2 ^ k by
    have : (2 : Nat) ^ 64 = 18446744073709551616 := by decide
    omega] at h
  rw [h, Nat.testBit_two_pow]
  by_cases c : k = b
  · subst c; simp
  · have c' : b ≠ k := fun e => c e.symm
    simp [c, c', hb]

theorem difC_bit {x y k b : Nat} (hk : k < 61) : (difC x y k).testBit b = (decide (k ≤ b) && ((x.testBit b != y.testBit b) && decide (b < 61)) && decide (b ≠ k)) := by
  unfold difC
  rw [Nat.testBit_and, difB_bit]
  by_cases hb : b < 61
  · rw [notBit_bit hk (by omega)]
  · simp [hb]

theorem difC_lt (x y k : Nat) : difC x y k < 2305843009213693952 := by
  unfold difC
  have h1 : difB x y k &&& (18446744073709551615 - 2 ^ k) ≤ difB x y k := Nat.and_le_left
  have := difB_lt x y k
  omega

/-- The number as an answer. -/
def fitI (c : Nat) (x y : Int) : Int := match fitN x y (123 - c) c with | some n => n | none => -1

theorem fitI_same {c : Nat} (hc : c ≤ 122) (x : Int) (hx : 0 ≤ x) : fitI c x x = 122 := by
  unfold fitI
  rw [fitN_is (n := 122) _ _ hc (by omega) (fit_tie x) (fun k k1 k2 => ?_)]
  · rfl
  · unfold fitB
    rw [if_neg (by omega)]
    cases h : x.toNat.testBit (k / 2) <;> rcases Nat.mod_two_eq_zero_or_one k with e | e <;> rw [e] <;> rfl

theorem fitI_tie {x y : Int} (h : x ≠ y) : fitI 122 x y = -1 := by
  unfold fitI
  rw [fitN_no _ _ (fun k k1 k2 => ?_)]
  rw [show k = 122 by omega]
  exact fit_tie_ne h

/-- Which bits the program looks at. -/
def difD (c x y : Nat) : Nat := if c % 2 = 1 ∧ x.testBit (c / 2) = false then difC x y (c / 2) else difB x y (c / 2)

theorem difD_bit {c x y : Nat} (hc : c < 122) (b : Nat) : (difD c x y).testBit b = (((x.testBit b != y.testBit b) && decide (c / 2 ≤ b) && !(c % 2 == 1 && !x.testBit (c / 2) && b == c / 2)) && decide (b < 61)) := by
  unfold difD
  by_cases h : c % 2 = 1 ∧ x.testBit (c / 2) = false
  · rw [if_pos h, difC_bit (by omega), h.1, h.2]
    by_cases e : b = c / 2
    · rw [e]; simp
    · have e' : (b == c / 2) = false := beq_eq_false_iff_ne.2 e
      rw [e']
      cases x.testBit b <;> cases y.testBit b <;> by_cases h1 : c / 2 ≤ b <;> by_cases h2 : b < 61 <;> simp [h1, h2, e]
  · rw [if_neg h, difB_bit]
    have : (c % 2 == 1 && !x.testBit (c / 2) && b == c / 2) = false := by
      cases hx : x.testBit (c / 2) with
      | true => simp
      | false =>
        have : c % 2 ≠ 1 := fun e => h ⟨e, hx⟩
        simp [this]
    rw [this]
    cases x.testBit b <;> cases y.testBit b <;> by_cases h1 : c / 2 ≤ b <;> by_cases h2 : b < 61 <;> simp [h1, h2]

theorem difD_lt (c x y : Nat) : difD c x y < 2305843009213693952 := by
  unfold difD
  split
  · exact difC_lt _ _ _
  · exact difB_lt _ _ _

theorem two_if (k : Nat) (b : Bool) : (((2 * k + if b then 1 else 0 : Nat)) : Int) = 2 * (k : Int) + (if b then 1 else 0) := by
  cases b
  · simp
  · simp

theorem fitI_bits {c x y : Nat} (hx : x < 2305843009213693951) (hy : y < 2305843009213693951) (hne : x ≠ y) (hc : c < 122) :
    (difD c x y = 0 → fitI c (x : Int) y = -1) ∧ (difD c x y ≠ 0 → Lib.ctz 64 (difD c x y) < 61 ∧ fitI c (x : Int) y = 2 * (Lib.ctz 64 (difD c x y) : Int) + (if x.testBit (Lib.ctz 64 (difD c x y)) then 1 else 0)) := by
  have h64 : (2 : Nat) ^ 64 = 18446744073709551616 := by decide
  have hlt := difD_lt c x y
  have h := fit_bits (D := difD c x y) hx hy hne hc (by omega) (fun b hb => by rw [difD_bit hc, decide_eq_true (show b < 61 from hb), Bool.and_true]) (fun b hb => by rw [difD_bit hc, decide_eq_false (show ¬ b < 61 by omega), Bool.and_false])
  constructor
  · intro h0
    unfold fitI
    rw [h.1 h0]
  · intro h0
    obtain ⟨h1, h2⟩ := h.2 h0
    refine ⟨h1, ?_⟩
    unfold fitI
    rw [h2]
    exact two_if _ _

/-- After, by the answers. -/
theorem aftI_fit (low x y : Int) : aftI low x y = if 0 ≤ fitI ((low / 2).toNat % 123) x y then 2 * (low / 2 + 1 + fitI ((low / 2).toNat % 123) x y - ((low / 2).toNat % 123 : Nat)) else if 0 ≤ fitI 0 x y then 2 * (low / 2 + 1 + fitI 0 x y - ((low / 2).toNat % 123 : Nat) + 123) else 0 := by
  unfold aftI fitI
  cases h1 : fitN x y (123 - (low / 2).toNat % 123) ((low / 2).toNat % 123) with
  | some n => dsimp only; rw [if_pos (by omega)]
  | none =>
    dsimp only
    rw [if_neg (by omega)]
    cases h2 : fitN x y 123 0 with
    | some n => dsimp only; rw [if_pos (by omega)]
    | none => dsimp only; rw [if_neg (by omega)]

end Go.Proofs.YtodmpcnpedpheaaDoor

/- The bits in which two keys differ, as the program reckons them (plain). -/
import Derived.Test.YtgldjpldldknoaaGreatDoorRBof0
import Derived.Laws.BitsAllLaws
import Derived.Laws.Bits64
import Derived.Test.YtgldjpldldknoaaGreatDoorRSt5
import Derived.Laws.AppendOwn
import Derived.Laws.CopyRow
import Derived.Deep.QuietTactic
import Derived.BigQuiet
import Derived.Test.YtgldjpldldknoaaGreatDoorRWt4
import Derived.Test.YtgldjpldldknoaaGreatDoorRBase
import Derived.Test.YtgldjpldldknoaaGreatDoorRSet
set_option linter.unusedSimpArgs false
set_option linter.unusedVariables false
namespace Go.Proofs.YtgldjpldldknoaaGreatDoor
open Go.RowKit
def difB (x y k : Nat) : Nat := ((x ^^^ y) &&& 2305843009213693951) / 2 ^ k * 2 ^ k
def difC (x y k : Nat) : Nat := difB x y k &&& (18446744073709551615 - 2 ^ k)
theorem testBit_61 (b : Nat) : (2305843009213693951 : Nat).testBit b = decide (b < 61) := by
 rw [show (2305843009213693951 : Nat) = 2 ^ 61 - 1 by decide, Nat.testBit_two_pow_sub_one]
theorem difB_bit (x y k b : Nat) : (difB x y k).testBit b = (decide (k ≤ b) && ((x.testBit b != y.testBit b) && decide (b < 61))) := by
 unfold difB
 rw [Nat.mul_comm, Nat.testBit_two_pow_mul, Nat.testBit_div_two_pow, Nat.testBit_and, Nat.testBit_xor, testBit_61]
 by_cases h : k ≤ b
 · rw [show b - k + k = b by omega]
 · simp [h]
theorem difB_lt (x y k : Nat) : difB x y k < 2305843009213693952 := by
 unfold difB
 have h1 : (x ^^^ y) &&& 2305843009213693951 < 2 ^ 61 := Nat.and_lt_two_pow _ (by decide)
 have h2 := Nat.div_mul_le_self ((x ^^^ y) &&& 2305843009213693951) (2 ^ k)
 have e : (2 : Nat) ^ 61 = 2305843009213693952 := by decide
 omega
theorem notBit_bit {k b : Nat} (hk : k < 61) (hb : b < 64) : (18446744073709551615 - 2 ^ k).testBit b = decide (b ≠ k) := by
 have h := Nat.testBit_two_pow_sub_succ (x := 2 ^ k) (n := 64) (Nat.pow_lt_pow_right (by decide) (by omega)) b
 rw [show (2 : Nat) ^ 64 - (2 ^ k + 1) = 18446744073709551615 - 2 ^ k by
  have : (2 : Nat) ^ 64 = 18446744073709551616 := by decide
  omega] at h
 rw [h, Nat.testBit_two_pow]
 by_cases c : k = b
 · subst c; simp
 · have c' : b ≠ k := fun e => c e.symm
   simp [c, c', hb]
theorem difC_bit {x y k b : Nat} (hk : k < 61) : (difC x y k).testBit b = (decide (k ≤ b) && ((x.testBit b != y.testBit b) && decide (b < 61)) && decide (b ≠ k)) := by
 unfold difC
 rw [Nat.testBit_and, difB_bit]
 by_cases hb : b < 61
 · rw [notBit_bit hk (by omega)]
 · simp [hb]
theorem difC_lt (x y k : Nat) : difC x y k < 2305843009213693952 := by
 unfold difC
 have h1 : difB x y k &&& (18446744073709551615 - 2 ^ k) ≤ difB x y k := Nat.and_le_left
 have := difB_lt x y k
 omega
def fitI (c : Nat) (x y : Int) : Int := match fitN x y (123 - c) c with | some n => n | none => -1
theorem fitI_same {c : Nat} (hc : c ≤ 122) (x : Int) (hx : 0 ≤ x) : fitI c x x = 122 := by
 unfold fitI
 rw [fitN_is (n := 122) _ _ hc (by omega) (fit_tie x) (fun k k1 k2 => ?_)]
 · rfl
 · unfold fitB
   rw [if_neg (by omega)]
   cases h : x.toNat.testBit (k / 2) <;> rcases Nat.mod_two_eq_zero_or_one k with e | e <;> rw [e] <;> rfl
theorem fitI_tie {x y : Int} (h : x ≠ y) : fitI 122 x y = -1 := by
 unfold fitI
 rw [fitN_no _ _ (fun k k1 k2 => ?_)]
 rw [show k = 122 by omega]
 exact fit_tie_ne h
def difD (c x y : Nat) : Nat := if c % 2 = 1 ∧ x.testBit (c / 2) = false then difC x y (c / 2) else difB x y (c / 2)
theorem difD_bit {c x y : Nat} (hc : c < 122) (b : Nat) : (difD c x y).testBit b = (((x.testBit b != y.testBit b) && decide (c / 2 ≤ b) && !(c % 2 == 1 && !x.testBit (c / 2) && b == c / 2)) && decide (b < 61)) := by
 unfold difD
 by_cases h : c % 2 = 1 ∧ x.testBit (c / 2) = false
 · rw [if_pos h, difC_bit (by omega), h.1, h.2]
   by_cases e : b = c / 2
   · rw [e]; simp
   · have e' : (b == c / 2) = false := beq_eq_false_iff_ne.2 e
     rw [e']
     cases x.testBit b <;> cases y.testBit b <;> by_cases h1 : c / 2 ≤ b <;> by_cases h2 : b < 61 <;> simp [h1, h2, e]
 · rw [if_neg h, difB_bit]
   have : (c % 2 == 1 && !x.testBit (c / 2) && b == c / 2) = false := by
    cases hx : x.testBit (c / 2) with
    | true => simp
    | false =>
     have : c % 2 ≠ 1 := fun e => h ⟨e, hx⟩
     simp [this]
   rw [this]
   cases x.testBit b <;> cases y.testBit b <;> by_cases h1 : c / 2 ≤ b <;> by_cases h2 : b < 61 <;> simp [h1, h2]
theorem difD_lt (c x y : Nat) : difD c x y < 2305843009213693952 := by
 unfold difD
 split
 · exact difC_lt _ _ _
 · exact difB_lt _ _ _
theorem two_if (k : Nat) (b : Bool) : (((2 * k + if b then 1 else 0 : Nat)) : Int) = 2 * (k : Int) + (if b then 1 else 0) := by
 cases b
 · simp
 · simp
theorem fitI_bits {c x y : Nat} (hx : x < 2305843009213693951) (hy : y < 2305843009213693951) (hne : x ≠ y) (hc : c < 122) :
    (difD c x y = 0 → fitI c (x : Int) y = -1) ∧ (difD c x y ≠ 0 → Lib.ctz 64 (difD c x y) < 61 ∧ fitI c (x : Int) y = 2 * (Lib.ctz 64 (difD c x y) : Int) + (if x.testBit (Lib.ctz 64 (difD c x y)) then 1 else 0)) := by
 have h64 : (2 : Nat) ^ 64 = 18446744073709551616 := by decide
 have hlt := difD_lt c x y
 have h := fit_bits (D := difD c x y) hx hy hne hc (by omega) (fun b hb => by rw [difD_bit hc, decide_eq_true (show b < 61 from hb), Bool.and_true]) (fun b hb => by rw [difD_bit hc, decide_eq_false (show ¬ b < 61 by omega), Bool.and_false])
 constructor
 · intro h0
   unfold fitI
   rw [h.1 h0]
 · intro h0
   obtain ⟨h1, h2⟩ := h.2 h0
   refine ⟨h1, ?_⟩
   unfold fitI
   rw [h2]
   exact two_if _ _
theorem aftI_fit (low x y : Int) : aftI low x y = if 0 ≤ fitI ((low / 2).toNat % 123) x y then 2 * (low / 2 + 1 + fitI ((low / 2).toNat % 123) x y - ((low / 2).toNat % 123 : Nat)) else if 0 ≤ fitI 0 x y then 2 * (low / 2 + 1 + fitI 0 x y - ((low / 2).toNat % 123 : Nat) + 123) else 0 := by
 unfold aftI fitI
 cases h1 : fitN x y (123 - (low / 2).toNat % 123) ((low / 2).toNat % 123) with
 | some n => dsimp only; rw [if_pos (by omega)]
 | none =>
  dsimp only
  rw [if_neg (by omega)]
  cases h2 : fitN x y 123 0 with
  | some n => dsimp only; rw [if_pos (by omega)]
  | none => dsimp only; rw [if_neg (by omega)]
end Go.Proofs.YtgldjpldldknoaaGreatDoor
/- Levels are small; filling the table of keys (plain). -/
set_option linter.unusedSimpArgs false
set_option linter.unusedVariables false
namespace Go.Proofs.YtgldjpldldknoaaGreatDoor
open Go.RowKit
theorem klev_rng {L : List Ent} (hD : DOk L) : ∀ (n : Nat) (id : Int), id.toNat ≤ n → isKnown L id → id ≠ 0 → -1 ≤ klev L id ∧ klev L id ≤ 493 * id := by
 intro n
 induction n with
 | zero => intro id h hk h0; have := hk.1; omega
 | succ n ih =>
  intro id h hk h0
  have h1 := hk.1
  have h2 := hk.2
  rcases hD.at id hk h0 with ⟨g1, _⟩ | ⟨g1, g2, _⟩ | ⟨g1, g2, _⟩
  · rw [(kl_letter (by omega) g1).2]; omega
  · have ka : isKnown L (entAt L id).rule.left := ⟨by omega, by omega⟩
    have kb : isKnown L (entAt L id).rule.right := ⟨by omega, by omega⟩
    have i1 := ih _ (by omega) ka (by omega)
    have i2 := ih _ (by omega) kb (by omega)
    have r1 := kkey_rng hD ka (by omega)
    have r2 := kkey_rng hD kb (by omega)
    rw [(kl_pair hD hk h0 g1).2]
    split
    · rename_i c
      have := aftI_spec (low := max (klev L (entAt L id).rule.left) (klev L (entAt L id).rule.right)) (by omega) r1.1 r1.2 r2.1 r2.2
      omega
    · omega
  · have ka : isKnown L (entAt L id).rule.left := ⟨by omega, by omega⟩
    have i1 := ih _ (by omega) ka (by omega)
    rw [(kl_power hD hk h0 g1).2]
    split <;> omega
def krow (L : List Ent) (id : Int) : KRow := ⟨kkey L id, klev L id, true⟩
def unk : List KRow → Nat
 | [] => 0
 | r :: T => (if r.kn then 0 else 1) + unk T
theorem unk_set : ∀ (T : List KRow) (i : Nat) (h : i < T.length) (r : KRow), T[i].kn = false → r.kn = true → unk (T.set i r) + 1 = unk T
 | [], i, h, _, _, _ => by simp at h
 | a :: T, 0, h, r, h1, h2 => by
  have h1' : a.kn = false := h1
  simp only [List.set_cons_zero, unk, h1', h2]
  simp
  omega
 | a :: T, i + 1, h, r, h1, h2 => by
  have := unk_set T i (by simpa using h) r (by simpa using h1) h2
  simp only [List.set_cons_succ, unk]
  omega
def blankR : KRow := ⟨0, 0, false⟩
theorem TabOk.grow {L : List Ent} {T : List KRow} (h : TabOk L T) (k : Nat) : TabOk L (T ++ List.replicate k blankR) := by
 intro i hi
 by_cases c : i < T.length
 · rw [List.getElem_append_left c]; exact h i c
 · rw [List.getElem_append_right (by omega), List.getElem_replicate]
   exact ⟨fun e => (by cases e), fun _ => rfl⟩
theorem TabOk.put {L : List Ent} {T : List KRow} (h : TabOk L T) {x : Int} (hk : isKnown L x) (h0 : x ≠ 0) : TabOk L (T.set x.toNat (krow L x)) := by
 intro i hi
 have h1 := hk.1
 have h2 := hk.2
 rw [List.length_set] at hi
 by_cases c : x.toNat = i
 · subst c
   rw [List.getElem_set_self]
   refine ⟨fun _ => ⟨by omega, by omega, ?_⟩, fun e => (by cases e)⟩
   rw [show ((x.toNat : Nat) : Int) = x by omega]
   exact ⟨rfl, rfl⟩
 · rw [List.getElem_set_ne c]
   exact h i hi
theorem TabOk.at {L : List Ent} {T : List KRow} (h : TabOk L T) {i : Nat} (hi : i < T.length) (hk : T[i].kn = true) : T[i] = krow L i := by
 obtain ⟨_, _, h3, h4⟩ := (h i hi).1 hk
 cases hr : T[i] with
 | mk a b c =>
  rw [hr] at h3 h4 hk
  simp only at h3 h4 hk
  unfold krow
  rw [h3, h4, hk]
structure Stk (T : List KRow) (id : Int) (td : List Int) : Prop where
 rng : ∀ x ∈ td, 1 ≤ x ∧ x ≤ id
 un : ∀ x ∈ td, ∀ h : x.toNat < T.length, T[x.toNat].kn = false
 dec : td.Pairwise (fun a b => b < a)
theorem Stk.nil (T : List KRow) (id : Int) : Stk T id [] := ⟨fun _ h => by simp at h, fun _ h => by simp at h, List.Pairwise.nil⟩
theorem Stk.one {T : List KRow} {id : Int} (h : 1 ≤ id) (hu : ∀ h : id.toNat < T.length, T[id.toNat].kn = false) : Stk T id [id] :=
 ⟨fun x hx => by simp at hx; omega, fun x hx => by simp at hx; subst hx; exact hu, by simp⟩
theorem Stk.push {T : List KRow} {id x y : Int} {td : List Int} (h : Stk T id (td ++ [x])) (hy : 1 ≤ y) (hyx : y < x) (hu : ∀ h : y.toNat < T.length, T[y.toNat].kn = false) : Stk T id (td ++ [x] ++ [y]) := by
 refine ⟨fun z hz => ?_, fun z hz => ?_, ?_⟩
 · rcases List.mem_append.1 hz with hz | hz
   · exact h.rng z hz
   · simp at hz; subst hz
     have := h.rng x (by simp)
     omega
 · rcases List.mem_append.1 hz with hz | hz
   · exact h.un z hz
   · simp at hz; subst hz; exact hu
 · rw [List.pairwise_append]
   refine ⟨h.dec, by simp, fun a ha b hb => ?_⟩
   simp at hb; subst hb
   rcases List.mem_append.1 ha with ha | ha
   · have := (List.pairwise_append.1 h.dec).2.2 a ha x (by simp)
     omega
   · simp at ha; subst ha; exact hyx
theorem Stk.pop {T : List KRow} {id x : Int} {td : List Int} {r : KRow} (h : Stk T id (td ++ [x])) : Stk (T.set x.toNat r) id td := by
 refine ⟨fun z hz => h.rng z (by simp [hz]), fun z hz hl => ?_, (List.pairwise_append.1 h.dec).1⟩
 have hx := h.rng x (by simp)
 have hz1 := h.rng z (by simp [hz])
 have := (List.pairwise_append.1 h.dec).2.2 z hz x (by simp)
 rw [List.length_set] at hl
 rw [List.getElem_set_ne (by omega)]
 exact h.un z (by simp [hz]) hl
end Go.Proofs.YtgldjpldldknoaaGreatDoor
/- append(s, make([]T, m)...): zeros behind a slice that the call owns. -/
set_option linter.unusedSimpArgs false
set_option linter.unusedVariables false
namespace Go.Proofs.YtgldjpldldknoaaGreatDoor
open Go.RowKit
theorem wrap_nat63 {m : Nat} (h : m ≤ maxLen) : IntKind.i64.wrap (m : Int) = m := by
 simp only [maxLen] at h
 simp [IntKind.wrap, IntKind.bits, IntKind.signed]
 omega
set_option maxHeartbeats 1000000 in
theorem run_zeros {P : Program} (w : World) (base : Nat) (t tn ty e : TypeId) (i : TypeInfo) (z : Value) (size bytes : Nat) (ht : P.underlying t = some (.slice e)) (htn : P.underlying tn = some (.int .i64)) (hi : P.info? e = some i) (hz : i.zero = some z)
    (hsize : i.size = size) (hby : i.bytes = bytes) (hzs : z.cells.size = size) (hsz : 0 < size)
    (v : Value) (n : Nat) (xs : List Value) (hown : w.ownsRow base e size v n xs) (m : Nat) (hm : 0 < m)
    (h1 : ∀ u ∈ (Builtin.zeroCells z.cells m).toList, u.oneCell' = true) (h63 : n + m ≤ maxLen) (hbytes : (n + m) * bytes ≤ 140737488355328) (hbase : base ≤ w.heap.size) :
    ∃ v' w', (Builtin.append_ #[t, tn] ty #[v, .int .i64 m]).run P w = .ok v' w' ∧ w'.ownsRow base e size v' (n + m) (xs ++ (Builtin.zeroCells z.cells m).toList) ∧ w.grownBy w' v.ownBlock ∧ (v'.ownBlock = v.ownBlock ∨ v'.ownBlock = some w.heap.size) := by
 subst hsize
 subst hby
 have hsmall : n + m ≤ 9223372036854775807 := by simp only [maxLen] at h63; omega
 have hwr : IntKind.i64.wrap (m : Int) = m := wrap_nat63 (by omega)
 have hl : (Builtin.zeroCells z.cells m).toList.length = m * i.size := by rw [Array.length_toList, size_zeroCells, hzs]
 have hnz : m * i.size ≠ 0 := by
  have := Nat.mul_pos hm hsz
  omega
 have hlen : (xs ++ (Builtin.zeroCells z.cells m).toList).length = (n + m) * i.size := by rw [List.length_append, hown.1, hl, Nat.add_mul]
 have hmb : m * i.bytes ≤ 140737488355328 := Nat.le_trans (Nat.mul_le_mul_right _ (by omega)) hbytes
 have hb48 : ¬ (281474976710656 < (m : Int) * (i.bytes : Int)) := by
  rw [← Int.natCast_mul]; omega
 have hneg : ¬ ((m : Int) < 0) := by omega
 have h63' : ¬ (9223372036854775807 < ((n : Int) + (m : Int))) := by omega
 rcases hown.2 with ⟨rfl, rfl⟩ | ⟨g, cap, cur, rfl, hbg, hg, hnc, hcm, hcs, htake⟩
 · have hx : xs = [] := List.eq_nil_of_length_eq_zero (by simpa using hown.1)
   subst hx
   have h48' : ¬ (281474976710656 < Builtin.nextslicecap m 0 * i.bytes) := by
    have := growslice_fits (need := m) (old := 0) (by omega) hmb
    omega
   have hm0 : ¬ m = 0 := by omega
   have hge := grownCap_ge w m 0 e
   have hcm : grownCap w m 0 e ≤ maxLen := grownCap_le_maxLen w m 0 e (by omega)
   refine ⟨.slice (some ⟨w.heap.size, 0, none⟩) m (grownCap w m 0 e), w.drew.alloc (.cells (Builtin.zeroCells z.cells m ++ Builtin.zeroCells z.cells (grownCap w m 0 e - m)) e), ?_, ?_, ?_, .inr rfl⟩
   · simp [Builtin.append_, run_underlying ht, run_underlying htn, sizeOf, typeInfo, zeroValue, hi, hz, asInt, asIntOf, hwr, hneg, hb48, hm0, hnz, h63', h48', Builtin.firstCells, Question.forced, newRow, grownCap]
     intro h; omega
   · rw [Nat.zero_add, List.nil_append]
     rw [Nat.zero_add, List.nil_append] at hlen
     refine ⟨hlen, .inr ⟨w.heap.size, _, _, rfl, hbase, heap_alloc_new w.drew _, by omega, hcm, ?_, ?_⟩⟩
     · rw [Array.size_append, size_zeroCells, size_zeroCells, hzs, ← Nat.add_mul]
       congr 1
       omega
     · rw [Array.toList_append, ← hl]
       exact List.take_left
   · exact ⟨rfl, rfl, rfl, by simp, fun k hk _ => Go.heap_alloc_old w.drew _ (by simpa using hk)⟩
 · by_cases hroom : n + m ≤ cap
   · have hfit : n * i.size + (Builtin.zeroCells z.cells m).toList.length ≤ cur.size := by rw [hl, hcs, ← Nat.add_mul]; exact Nat.mul_le_mul_right _ hroom
     have hst := run_storeCells_at P g (n * i.size) e (Builtin.zeroCells z.cells m).toList 0 cur w hg (by simpa using hfit) h1
     simp only [Nat.add_zero] at hst
     refine ⟨.slice (some ⟨g, 0, none⟩) (n + m) cap, w.setRow g (cur.toList.take (n * i.size) ++ (Builtin.zeroCells z.cells m).toList ++ cur.toList.drop (n * i.size + (Builtin.zeroCells z.cells m).toList.length)).toArray, ?_, ?_, ?_, .inl rfl⟩
     · simp [Builtin.append_, run_underlying ht, run_underlying htn, sizeOf, typeInfo, zeroValue, hi, hz, asInt, asIntOf, hwr, hneg, hb48, hnz, hroom, Addr.add_lit, hst]
     · refine ⟨hlen, .inr ⟨g, cap, _, rfl, hbg, setRow_heap w g cur _ e _ hg, hroom, hcm, ?_, ?_⟩⟩
       · simp only [List.size_toArray, List.length_append, List.length_take, List.length_drop, Array.length_toList] at hfit ⊢
         omega
       · rw [htake, ← hlen]
         exact List.take_left
     · exact ⟨rfl, rfl, rfl, by simp, fun k _ hk => setRow_other w g k _ (fun e => hk (by simp [Value.ownBlock, e]))⟩
   · have holds : ∀ j u, xs[j]? = some u → w.cell? ((⟨g, 0, none⟩ : Addr).add j) = some u := hown.cells (g := g) rfl
     have h48' : ¬ (281474976710656 < Builtin.nextslicecap (n + m) cap * i.bytes) := by
      have := growslice_fits (need := n + m) (old := cap) (by omega) hbytes
      omega
     have hfo := run_firstCells_some (P := P) w.drew i.size n ⟨g, 0, none⟩ n cap xs hown.1 (by simpa using holds)
     have hge := grownCap_ge w (n + m) cap e
     have hcm2 : grownCap w (n + m) cap e ≤ maxLen := grownCap_le_maxLen w (n + m) cap e h63
     refine ⟨.slice (some ⟨w.heap.size, 0, none⟩) (n + m) (grownCap w (n + m) cap e), w.drew.alloc (.cells (xs.toArray ++ Builtin.zeroCells z.cells m ++ Builtin.zeroCells z.cells (grownCap w (n + m) cap e - (n + m))) e), ?_, ?_, ?_, .inr rfl⟩
     · simp [Builtin.append_, run_underlying ht, run_underlying htn, sizeOf, typeInfo, zeroValue, hi, hz, asInt, asIntOf, hwr, hneg, hb48, hnz, hroom, h63', h48', hfo, Question.forced, newRow, grownCap]
     · refine ⟨hlen, .inr ⟨w.heap.size, _, _, rfl, hbase, heap_alloc_new w.drew _, by omega, hcm2, ?_, ?_⟩⟩
       · simp only [Array.size_append, List.size_toArray, size_zeroCells, hzs, hown.1, ← Nat.add_mul]
         congr 1
         omega
       · simp only [Array.toList_append]
         rw [← hlen]
         exact List.take_left
     · exact ⟨rfl, rfl, rfl, by simp, fun k hk _ => Go.heap_alloc_old w.drew _ (by simpa using hk)⟩
theorem step_zeros {P : Program} {w : World} {ops : Array Oper} {o : Oper} {a : Act} {K : Act → World → Prop} {Q : Exit → Act → World → Prop} {E : Prop} (hgd : o.guard = none) (s x : Operand) (t tn : TypeId)
    (ho : o.op = .call { callee := .builtin .append, args := #[s, x], argTypes := #[t, tn] })
    (base : Nat) (e : TypeId) (i : TypeInfo) (z : Value) (size bytes : Nat) (ht : P.underlying t = some (.slice e)) (htn : P.underlying tn = some (.int .i64)) (hi : P.info? e = some i) (hz : i.zero = some z)
    (hsize : i.size = size) (hby : i.bytes = bytes) (hzs : z.cells.size = size) (hsz : 0 < size)
    (v : Value) (n : Nat) (xs : List Value) (hs : a.eval s = v) (hown : w.ownsRow base e size v n xs) (m : Nat) (hx : a.eval x = .int .i64 m) (hm : 0 < m)
    (h1 : ∀ u ∈ (Builtin.zeroCells z.cells m).toList, u.oneCell' = true) (h63 : n + m ≤ maxLen) (hbytes : (n + m) * bytes ≤ 140737488355328) (hbase : base ≤ w.heap.size)
    (hK : ∀ v' w', w'.ownsRow base e size v' (n + m) (xs ++ (Builtin.zeroCells z.cells m).toList) → w.grownBy w' v.ownBlock → (v'.ownBlock = v.ownBlock ∨ v'.ownBlock = some w.heap.size) → K (a.put o.dst v') w') :
    if Region.wanted o (yielded ops a.tmps) = true then Oper.wp P o a w K Q else E := by
 have hw : Region.wanted o (yielded ops a.tmps) = true := by simp [Region.wanted, hgd]
 rw [if_pos hw]
 obtain ⟨v', w', hr, h2, h3, h4⟩ := run_zeros (P := P) w base t tn o.type e i z size bytes ht htn hi hz hsize hby hzs hsz v n xs hown m hm h1 h63 hbytes hbase
 unfold Oper.wp execOp
 simp only [ho, resolve, invoke, builtin, Sem.run_bind, Sem.run_pure, Result.andThen_ok, List.map_toArray, List.map_cons, List.map_nil, hs, hx, hr]
 exact hK _ _ h2 h3 h4
theorem zeroRows : ∀ m : Nat, (Builtin.zeroCells #[.int .u64 0, .int .i64 0, .bool false] m).toList = (List.replicate m blankR).flatMap KRow.vals
 | 0 => by simp [Builtin.zeroCells]
 | m + 1 => by
  rw [List.replicate_succ', List.flatMap_append, ← zeroRows m]
  simp [Builtin.zeroCells, List.range_succ, show (m + 1) * 3 = m * 3 + 1 + 1 + 1 by omega, KRow.vals, blankR, Nat.add_mod, Nat.mul_mod_left]
theorem zeroRows_one (m : Nat) : ∀ u ∈ (Builtin.zeroCells (Value.agg #[.int .u64 0, .int .i64 0, .bool false]).cells m).toList, u.oneCell' = true := by
 intro u hu
 have e : (Builtin.zeroCells (Value.agg #[.int .u64 0, .int .i64 0, .bool false]).cells m).toList = _ := zeroRows m
 rw [e] at hu
 rw [List.mem_flatMap] at hu
 obtain ⟨r, hr, hu⟩ := hu
 obtain ⟨_, rfl⟩ := List.mem_replicate.1 hr
 simp [KRow.vals, blankR] at hu
 rcases hu with rfl | rfl | rfl <;> rfl
end Go.Proofs.YtgldjpldldknoaaGreatDoor
/- Rows of a blame, and the walk of builder.add. -/
set_option linter.unusedSimpArgs false
set_option linter.unusedVariables false
namespace Go.Proofs.YtgldjpldldknoaaGreatDoor
open Go.RowKit
structure Rw where
 fr : Int
 n : Int
 ver : Int
 org : Int
deriving DecidableEq, Inhabited
def Rw.vals (r : Rw) : List Value := [.int .i64 r.fr, .int .i64 r.n, .int .i64 r.ver, .int .i64 r.org]
end Go.Proofs.YtgldjpldldknoaaGreatDoor
/- The walk of builder.add where the last row goes on. -/
set_option linter.unusedSimpArgs false
set_option linter.unusedVariables false
namespace Go.Proofs.YtgldjpldldknoaaGreatDoor
open Go.RowKit
theorem owns_set_own {w : World} {base : Nat} {e : TypeId} {size n cap g : Nat} {xs : List Value} (h : w.ownsRow base e size (.slice (some ⟨g, 0, none⟩) n cap) n xs) (j : Nat) (u : Value) (hj : j < xs.length) : (w.setCell ⟨g, j, none⟩ u).ownsRow base e size (.slice (some ⟨g, 0, none⟩) n cap) n (xs.set j u) := by
 refine ⟨by rw [List.length_set]; exact h.1, .inr ?_⟩
 rcases h.2 with ⟨h1, _⟩ | ⟨g', cap', cur, h1, hb, hg, h2, h3, h4, h5⟩
 · cases h1
 · simp only [Value.slice.injEq, Option.some.injEq, Addr.mk.injEq] at h1
   obtain ⟨⟨rfl, _, _⟩, _, rfl⟩ := h1
   refine ⟨g, cap, _, rfl, hb, setCell_block hg j u, h2, h3, by simpa using h4, ?_⟩
   rw [← h5, Array.toList_setIfInBounds, List.take_set]
end Go.Proofs.YtgldjpldldknoaaGreatDoor
/- The walk of Power. -/
set_option linter.unusedSimpArgs false
set_option linter.unusedVariables false
namespace Go.Proofs.YtgldjpldldknoaaGreatDoor
open Go.RowKit
set_option maxRecDepth 100000 in
set_option maxHeartbeats 1000000 in
theorem st_Power_some {w : World} {p mb : Nat} {most : Int} {sv : Value} {L : List Ent} (hS : St w p mb most sv L) (hO : SOk L) (l : Int) (k : Nat) (hl : isKnown L l) (l0 : l ≠ 0) (hk : 2 ≤ k)
    (hlen : (entAt L l).wt.len * k ≤ 1152921504606846976) (j : Nat) (hj : ruleIdx ⟨3, 0, l, 0, k⟩ L = some j) :
    Calls Tryz.prog 87 #[.pointer (some ⟨p, 0, none⟩), .int .i64 l, .int .i64 k] w fun e w' => e = .returned (.tuple #[.int .i64 ((j : Int) + 1), .nilIface]) ∧ Fr0 w w' := by
 have CF := Lib.hid (fun w' (hf : Fr0 w w') => st_find_some (hS.kept0 hf) ⟨3, 0, l, 0, k⟩ j hj)
 have K1 := Lib.hid (fun w' (hf : Fr0 w w') => st_known_yes (hS.kept0 hf) l hl)
 have a1 := fun w' (hf : Fr0 w w') => st_at (hS.kept0 hf) l hl
 have q1 := (hO.at l hl).1.len1
 have q2 := ((hO.at l hl).2.2.2 l0).1
 generalize entAt L l = x at *
 have CM := Lib.hid (fun w' => len_Mul_ok x.wt.len k w' q2 (by omega) hlen q1)
 have A1 := Lib.hid a1
 have hl0 : (l == 0) = false := by simpa using l0
 have hk0 : ((k : Int) == 0) = false := by simp; omega
 have hk1 : ((k : Int) == 1) = false := by simp; omega
 have hk2 : (0 : Int) ≤ (k : Int) := by omega
 clear hS hj a1 hO l0 hl hlen
 go_enter Tryz.func87, Tryz.ntmps87
 go_wp2_with fail
 refine (K1.out _ (Fr0.refl w)).mono ?_
 rintro e w' ⟨rfl, rfl⟩
 go_wp2_with fail
 refine (A1.out _ (Fr0.refl w)).mono ?_
 rintro e w1 ⟨rfl, hf1⟩
 go_wp2_with fail
 refine (CM.out _).mono ?_
 rintro e w' ⟨rfl, rfl⟩
 go_wp2_with fail
 refine (CF.out _ ((hf1.alloc _).alloc _)).mono ?_
 rintro e w4 ⟨rfl, hf4⟩
 have hj1 : ((j : Int) + 1 != 0) = true := by simp; omega
 go_wp2_with fail
 go_ret2
 exact ⟨rfl, ((hf1.alloc _).alloc _).trans hf4⟩
set_option maxRecDepth 100000 in
set_option maxHeartbeats 2000000 in
theorem st_Power_none {w : World} {p mb : Nat} {most : Int} {sv : Value} {L : List Ent} (hS : St w p mb most sv L) (hO : SOk L) (l : Int) (k : Nat) (hl : isKnown L l) (l0 : l ≠ 0) (hk : 2 ≤ k)
    (hlen : (entAt L l).wt.len * k ≤ 1152921504606846976) (hj : ruleIdx (powEnt L l k).rule L = none) (hm : (L.length : Int) < most) (hL : L.length < 1048576) :
    Calls Tryz.prog 87 #[.pointer (some ⟨p, 0, none⟩), .int .i64 l, .int .i64 k] w fun e w' => e = .returned (.tuple #[.int .i64 ((L.length : Int) + 1), .nilIface]) ∧ Stepped w w' p mb most sv (L ++ [powEnt L l k]) := by
 have CF := Lib.hid (fun w' (hf : Fr0 w w') => st_find_none (hS.kept0 hf) ⟨3, 0, l, 0, k⟩ hj hm)
 have K1 := Lib.hid (fun w' (hf : Fr0 w w') => st_known_yes (hS.kept0 hf) l hl)
 have a1 := fun w' (hf : Fr0 w w') => st_at (hS.kept0 hf) l hl
 obtain ⟨v1, v2, v3, v4⟩ := hO.at l hl
 have q1 := v1.len1
 have q2 := (v4 l0).1
 have cj : ∀ w', Calls Tryz.prog 106 #[.agg #[.int .i64 (entAt L l).wt.len, .int .i64 (entAt L l).wt.lines, .int .i64 (entAt L l).wt.head, .int .i64 (entAt L l).wt.tail, .int .u64 (entAt L l).wt.val, .int .u64 (entAt L l).wt.scale], .int .i64 k] w'
     fun e w'' => e = .returned (.tuple #[.agg #[.int .i64 ((entAt L l).wt.rep k).len, .int .i64 ((entAt L l).wt.rep k).lines, .int .i64 ((entAt L l).wt.rep k).head, .int .i64 ((entAt L l).wt.rep k).tail, .int .u64 ((entAt L l).wt.rep k).val, .int .u64 ((entAt L l).wt.rep k).scale], .nilIface]) ∧ Fr0 w' w'' :=
  fun w' => wt_Repeat _ k w' v1 (by omega) q2 hlen
 have ca := fun (t : Wt) (d : Int) w' (hf : Fr0 w w') => st_add' (hS.kept0 hf) ⟨⟨3, 0, l, 0, k⟩, t, d, false⟩ hj hL
 have hx : powEnt L l k = ⟨⟨3, 0, l, 0, k⟩, (entAt L l).wt.rep k, 1 + (entAt L l).depth, false⟩ := rfl
 rw [hx]
 generalize (entAt L l).wt.rep k = t at *
 generalize entAt L l = x at *
 have CM := Lib.hid (fun w' => len_Mul_ok x.wt.len k w' q2 (by omega) hlen q1)
 have A1 := Lib.hid a1
 have CJ := Lib.hid cj
 have CA := Lib.hid ca
 have hl0 : (l == 0) = false := by simpa using l0
 have hk0 : ((k : Int) == 0) = false := by simp; omega
 have hk1 : ((k : Int) == 1) = false := by simp; omega
 have hk2 : (0 : Int) ≤ (k : Int) := by omega
 clear hS hj a1 hO l0 hl hlen cj ca hx v1 v4
 go_enter Tryz.func87, Tryz.ntmps87
 go_wp2_with fail
 refine (K1.out _ (Fr0.refl w)).mono ?_
 rintro e w' ⟨rfl, rfl⟩
 go_wp2_with fail
 refine (A1.out _ (Fr0.refl w)).mono ?_
 rintro e w1 ⟨rfl, hf1⟩
 go_wp2_with fail
 refine (CM.out _).mono ?_
 rintro e w' ⟨rfl, rfl⟩
 go_wp2_with fail
 refine (CF.out _ ((hf1.alloc _).alloc _)).mono ?_
 rintro e w4 ⟨rfl, hf4⟩
 have hx4 := hf4.kept (alloc2_0 _ _ _)
 have hr4 := hf4.kept (alloc2_1 _ _ _)
 have hW4 := ((hf1.alloc _).alloc _).trans hf4
 clear hf4 hf1 CF K1 A1 CM
 generalize w1.heap.size = N at *
 clear w1
 obtain ⟨x5, x6, x7, x8, x9, x10, x11, x12, lx⟩ := cells13 hx4
 obtain ⟨r1, r2, r3, r4, r5, lr⟩ := cells5 hr4
 go_wp2_with fail
 refine (CJ.out _).mono ?_
 rintro e w5 ⟨rfl, hf5⟩
 have hx5 := hf5.kept hx4
 have hr5 := hf5.kept hr4
 have hW5 := hW4.trans hf5
 clear hf5 hW4 x5 x6 x7 x8 x9 x10 x11 x12 lx r1 r2 r3 r4 r5 lr hx4 hr4 CJ
 clear w4
 obtain ⟨x5, x6, x7, x8, x9, x10, x11, x12, lx⟩ := cells13 hx5
 obtain ⟨r1, r2, r3, r4, r5, lr⟩ := cells5 hr5
 clear x5 x6 x7 x8 x9 x10 hx5 hr5
 have n1 : ¬ w5.heap.size = N := by omega
 have n2 : ¬ w5.heap.size = N + 1 := by omega
 go_wp2_with fail
 refine (CA.out _ _ _ (hW5.alloc _)).mono ?_
 rintro e w6 ⟨rfl, hst⟩
 go_wp2_with fail
 go_ret2
 exact ⟨rfl, hst.before (hW5.alloc _)⟩
theorem st_Power {w : World} {p mb : Nat} {most : Int} {sv : Value} {L : List Ent} (hS : St w p mb most sv L) (hO : SOk L) (l : Int) (k : Nat) (hl : isKnown L l) (l0 : l ≠ 0) (hk : 2 ≤ k)
    (hlen : (entAt L l).wt.len * k ≤ 1152921504606846976) (hm : (L.length : Int) < most) (hL : L.length < 1048576) :
    Calls Tryz.prog 87 #[.pointer (some ⟨p, 0, none⟩), .int .i64 l, .int .i64 k] w fun e w' => e = .returned (.tuple #[.int .i64 (addI L (powEnt L l k)), .nilIface]) ∧ Stepped w w' p mb most sv (addL L (powEnt L l k)) := by
 cases hj : ruleIdx (powEnt L l k).rule L with
 | some j =>
  rw [addI_some hj, addL_some hj]
  exact (st_Power_some hS hO l k hl l0 hk hlen j hj).mono fun e w' ⟨h1, h2⟩ => ⟨h1, Stepped.same hS h2⟩
 | none =>
  rw [addI_none hj, addL_none hj]
  exact st_Power_none hS hO l k hl l0 hk hlen hj hm hL
end Go.Proofs.YtgldjpldldknoaaGreatDoor
/- Readers of texts (plain): what is left to read, and that opening a symbol leaves it as it is. -/
set_option linter.unusedSimpArgs false
set_option linter.unusedVariables false
namespace Go.Proofs.YtgldjpldldknoaaGreatDoor
open Go.RowKit
def txB (L : List Ent) (back : Bool) (id : Int) : List Int := if back then (txt L id).reverse else txt L id
def restG (L : List Ent) (back : Bool) (td : List (Int × Int)) : List Int := (td.reverse.map fun p => reps (txB L back p.1) p.2.toNat).flatten
structure GOk (L : List Ent) (p : Int × Int) : Prop where
 kn : isKnown L p.1
 ne : p.1 ≠ 0
 lv : 0 ≤ klev L p.1
 tm : 1 ≤ p.2
def opnG (L : List Ent) (back : Bool) (id : Int) : List (Int × Int) :=
 if (entAt L id).rule.kind = 3 then [((entAt L id).rule.left, (entAt L id).rule.times)]
 else if (entAt L id).rule.kind = 2 then (if back then [((entAt L id).rule.left, 1), ((entAt L id).rule.right, 1)] else [((entAt L id).rule.right, 1), ((entAt L id).rule.left, 1)])
 else []
theorem restG_push (L : List Ent) (back : Bool) (td : List (Int × Int)) (p : Int × Int) : restG L back (td ++ [p]) = reps (txB L back p.1) p.2.toNat ++ restG L back td := by
 unfold restG; rw [List.reverse_append]; rfl
theorem restG_nil (L : List Ent) (back : Bool) : restG L back [] = [] := rfl
theorem reps_zero (t : List Int) : reps t 0 = [] := rfl
theorem reps_one (t : List Int) : reps t 1 = t := by rw [reps_succ, reps_zero, List.append_nil]
theorem reps_add (t : List Int) : ∀ a b : Nat, reps t (a + b) = reps t a ++ reps t b
 | 0, b => by rw [Nat.zero_add, reps_zero]; rfl
 | a + 1, b => by rw [show a + 1 + b = (a + b) + 1 by omega, reps_succ, reps_add t a b, reps_succ, List.append_assoc]
theorem reps_reverse (t : List Int) : ∀ k : Nat, (reps t k).reverse = reps t.reverse k
 | 0 => rfl
 | k + 1 => by rw [show k + 1 = k + 1 from rfl, reps_add t k 1, reps_one, List.reverse_append, reps_reverse t k, reps_succ]
theorem kids_ok {L : List Ent} {back : Bool} (hS : SOk L) (hD : DOk L) {id : Int} (hk : isKnown L id) (h0 : id ≠ 0) (hl : 0 ≤ klev L id) : ∀ p ∈ opnG L back id, GOk L p ∧ p.1 < id := by
 have h1 := hk.1
 have h2 := hk.2
 intro p hp
 unfold opnG at hp
 rcases hD.at id hk h0 with ⟨g1, _⟩ | ⟨g1, g2, _⟩ | ⟨g1, g2, g3⟩
 · rw [if_neg (by rw [g1]; decide), if_neg (by rw [g1]; decide)] at hp; simp at hp
 · have e := (kl_pair hD hk h0 g1).2
   have hc : (entAt L id).rule.left ≠ (entAt L id).rule.right ∧ 0 ≤ klev L (entAt L id).rule.left ∧ 0 ≤ klev L (entAt L id).rule.right := by
    by_cases c : (entAt L id).rule.left ≠ (entAt L id).rule.right ∧ 0 ≤ klev L (entAt L id).rule.left ∧ 0 ≤ klev L (entAt L id).rule.right
    · exact c
    · rw [if_neg c] at e; omega
   rw [if_neg (by rw [g1]; decide), if_pos g1] at hp
   have hh : p = ((entAt L id).rule.left, 1) ∨ p = ((entAt L id).rule.right, 1) := by
    cases back <;> simp at hp <;> rcases hp with h | h <;> simp [h]
   rcases hh with rfl | rfl
   · exact ⟨⟨⟨by show (0 : Int) ≤ (entAt L id).rule.left; omega, by show (entAt L id).rule.left ≤ _; omega⟩, by show (entAt L id).rule.left ≠ 0; omega, hc.2.1, by show (1 : Int) ≤ 1; omega⟩, g2.2.1⟩
   · exact ⟨⟨⟨by show (0 : Int) ≤ (entAt L id).rule.right; omega, by show (entAt L id).rule.right ≤ _; omega⟩, by show (entAt L id).rule.right ≠ 0; omega, hc.2.2, by show (1 : Int) ≤ 1; omega⟩, g2.2.2.2⟩
 · have e := (kl_power hD hk h0 g1).2
   have hc : 0 ≤ klev L (entAt L id).rule.left := by
    by_cases c : 0 ≤ klev L (entAt L id).rule.left ∧ klev L (entAt L id).rule.left % 2 = 0
    · exact c.1
    · rw [if_neg c] at e; omega
   rw [if_pos g1] at hp
   simp only [List.mem_cons, List.not_mem_nil, or_false] at hp
   subst hp
   have ht : 1 ≤ (entAt L id).rule.times := by
    have hw := ((hS.at id hk).2.2.2 h0).1
    rcases Int.lt_or_le 0 (entAt L id).rule.times with c | c
    · exact c
    · exfalso
      have hx := txt_len hD hS _ id (Nat.le_refl _) hk
      rw [txt_pow hD hk h0 g1, show (entAt L id).rule.times.toNat = 0 by omega, reps_zero] at hx
      simp at hx
      omega
   exact ⟨⟨⟨by show (0 : Int) ≤ (entAt L id).rule.left; omega, by show (entAt L id).rule.left ≤ _; omega⟩, by show (entAt L id).rule.left ≠ 0; omega, hc, ht⟩, g2.2⟩
theorem restG_open {L : List Ent} (hD : DOk L) {back : Bool} {id : Int} (hk : isKnown L id) (h0 : id ≠ 0) (h1 : (entAt L id).rule.kind ≠ 1) (td : List (Int × Int)) :
    restG L back (td ++ opnG L back id) = txB L back id ++ restG L back td := by
 unfold opnG
 rcases hD.at id hk h0 with ⟨g1, _⟩ | ⟨g1, g2, _⟩ | ⟨g1, g2, g3⟩
 · exact absurd g1 h1
 · rw [if_neg (by rw [g1]; decide), if_pos g1]
   cases back with
   | true =>
    rw [if_pos rfl, show td ++ [((entAt L id).rule.left, (1 : Int)), ((entAt L id).rule.right, 1)] = (td ++ [((entAt L id).rule.left, (1 : Int))]) ++ [((entAt L id).rule.right, 1)] by simp, restG_push, restG_push]
    show reps _ 1 ++ (reps _ 1 ++ _) = _
    rw [reps_one, reps_one]
    unfold txB
    rw [if_pos rfl, if_pos rfl, if_pos rfl, txt_pair hD hk h0 g1, List.reverse_append, List.append_assoc]
   | false =>
    rw [if_neg (by decide), show td ++ [((entAt L id).rule.right, (1 : Int)), ((entAt L id).rule.left, 1)] = (td ++ [((entAt L id).rule.right, (1 : Int))]) ++ [((entAt L id).rule.left, 1)] by simp, restG_push, restG_push]
    show reps _ 1 ++ (reps _ 1 ++ _) = _
    rw [reps_one, reps_one]
    unfold txB
    rw [if_neg (by decide), if_neg (by decide), if_neg (by decide), txt_pair hD hk h0 g1, List.append_assoc]
 · rw [if_pos g1, restG_push]
   dsimp only
   congr 1
   unfold txB
   cases back with
   | true => rw [if_pos rfl, if_pos rfl, txt_pow hD hk h0 g1, reps_reverse]
   | false => rw [if_neg (by decide), if_neg (by decide), txt_pow hD hk h0 g1]
def drpG (td : List (Int × Int)) (x k : Int) : List (Int × Int) := if k = 0 then td else td ++ [(x, k)]
theorem restG_drop (L : List Ent) (back : Bool) (td : List (Int × Int)) (x k j : Int) (hj : 0 ≤ j) (hk : j ≤ k) :
    restG L back (td ++ [(x, k)]) = reps (txB L back x) j.toNat ++ restG L back (drpG td x (k - j)) := by
 rw [restG_push]
 unfold drpG
 dsimp only
 rw [show k.toNat = j.toNat + (k - j).toNat by omega, reps_add, List.append_assoc]
 congr 1
 split
 · rename_i h
   rw [h]; rfl
 · rw [restG_push]
theorem txB_len (L : List Ent) (back : Bool) (id : Int) : (txB L back id).length = (txt L id).length := by
 unfold txB; split <;> simp
def potG (L : List Ent) : List (Int × Int) → Nat
 | [] => 0
 | p :: r => p.2.toNat * ((txt L p.1).length - 1) + potG L r
theorem potG_append (L : List Ent) : ∀ a b : List (Int × Int), potG L (a ++ b) = potG L a + potG L b
 | [], b => by simp [potG]
 | p :: r, b => by
  show _ + potG L (r ++ b) = _ + potG L r + potG L b
  rw [potG_append L r b]; omega
theorem txt_pos {L : List Ent} (hS : SOk L) (hD : DOk L) {id : Int} (hk : isKnown L id) (h0 : id ≠ 0) : 1 ≤ (txt L id).length := by
 have h := txt_len hD hS _ id (Nat.le_refl _) hk
 have := ((hS.at id hk).2.2.2 h0).1
 omega
theorem restG_append (L : List Ent) (back : Bool) (a b : List (Int × Int)) : restG L back (a ++ b) = restG L back b ++ restG L back a := by
 unfold restG; rw [List.reverse_append, List.map_append, List.flatten_append]
theorem drop_reps (t : List Int) {m q n' : Nat} (h : q + 1 ≤ m) (h1 : n' ≤ t.length) : (reps t m).drop (m * t.length - (q * t.length + n')) = t.drop (t.length - n') ++ reps t q := by
 obtain ⟨j, rfl⟩ : ∃ j, m = j + (q + 1) := ⟨m - (q + 1), by omega⟩
 rw [reps_add, reps_succ]
 have e : (j + (q + 1)) * t.length - (q * t.length + n') = (reps t j).length + (t.length - n') := by
  rw [reps_len, Nat.add_mul, Nat.add_mul, Nat.one_mul]
  omega
 rw [e, List.drop_append, List.drop_eq_nil_of_le (by omega), List.nil_append, Nat.add_sub_cancel_left, List.drop_append_of_le_length (by omega)]
def tailG (L : List Ent) (back : Bool) (id : Int) (n : Nat) : List Int := (txB L back id).drop ((txB L back id).length - n)
theorem tailG_all (L : List Ent) (back : Bool) (id : Int) : tailG L back id (txt L id).length = txB L back id := by
 unfold tailG; rw [txB_len, Nat.sub_self, List.drop_zero]
theorem tailG_pow {L : List Ent} (hD : DOk L) (back : Bool) {id : Int} (hk : isKnown L id) (h0 : id ≠ 0) (h3 : (entAt L id).rule.kind = 3) {q n' : Nat} (hn' : n' ≤ (txt L (entAt L id).rule.left).length) (hq : q + 1 ≤ (entAt L id).rule.times.toNat) :
    tailG L back id (q * (txt L (entAt L id).rule.left).length + n') = tailG L back (entAt L id).rule.left n' ++ reps (txB L back (entAt L id).rule.left) q := by
 have e : txB L back id = reps (txB L back (entAt L id).rule.left) (entAt L id).rule.times.toNat := by
  unfold txB
  cases back with
  | true => rw [if_pos rfl, if_pos rfl, txt_pow hD hk h0 h3, reps_reverse]
  | false => rw [if_neg (by decide), if_neg (by decide), txt_pow hD hk h0 h3]
 unfold tailG
 rw [e, reps_len, ← txB_len L back (entAt L id).rule.left]
 exact drop_reps _ hq (by rw [txB_len]; exact hn')
theorem txB_pair {L : List Ent} (hD : DOk L) (back : Bool) {id : Int} (hk : isKnown L id) (h0 : id ≠ 0) (h2 : (entAt L id).rule.kind = 2) :
    txB L back id = txB L back (if back then (entAt L id).rule.right else (entAt L id).rule.left) ++ txB L back (if back then (entAt L id).rule.left else (entAt L id).rule.right) := by
 unfold txB
 cases back with
 | true => rw [if_pos rfl, if_pos rfl, if_pos rfl, if_pos rfl, if_pos rfl, txt_pair hD hk h0 h2, List.reverse_append]
 | false => rw [if_neg (by decide), if_neg (by decide), if_neg (by decide), if_neg (by decide), if_neg (by decide), txt_pair hD hk h0 h2]
theorem tailG_far {L : List Ent} (hD : DOk L) (back : Bool) {id : Int} (hk : isKnown L id) (h0 : id ≠ 0) (h2 : (entAt L id).rule.kind = 2) {n : Nat} (hn : n ≤ (txt L (if back then (entAt L id).rule.left else (entAt L id).rule.right)).length) :
    tailG L back id n = tailG L back (if back then (entAt L id).rule.left else (entAt L id).rule.right) n := by
 unfold tailG
 rw [txB_pair hD back hk h0 h2, List.length_append]
 rw [← txB_len L back] at hn
 rw [show (txB L back (if back then (entAt L id).rule.right else (entAt L id).rule.left)).length + (txB L back (if back then (entAt L id).rule.left else (entAt L id).rule.right)).length - n = (txB L back (if back then (entAt L id).rule.right else (entAt L id).rule.left)).length + ((txB L back (if back then (entAt L id).rule.left else (entAt L id).rule.right)).length - n) by omega, List.drop_append, List.drop_eq_nil_of_le (by omega), List.nil_append, Nat.add_sub_cancel_left]
theorem tailG_near {L : List Ent} (hD : DOk L) (back : Bool) {id : Int} (hk : isKnown L id) (h0 : id ≠ 0) (h2 : (entAt L id).rule.kind = 2) {n : Nat}
    (hn : n ≤ (txt L (if back then (entAt L id).rule.right else (entAt L id).rule.left)).length) :
    tailG L back id (n + (txt L (if back then (entAt L id).rule.left else (entAt L id).rule.right)).length) = tailG L back (if back then (entAt L id).rule.right else (entAt L id).rule.left) n ++ txB L back (if back then (entAt L id).rule.left else (entAt L id).rule.right) := by
 unfold tailG
 rw [txB_pair hD back hk h0 h2, List.length_append]
 rw [← txB_len L back] at hn ⊢
 rw [show (txB L back (if back then (entAt L id).rule.right else (entAt L id).rule.left)).length + (txB L back (if back then (entAt L id).rule.left else (entAt L id).rule.right)).length - (n + (txB L back (if back then (entAt L id).rule.left else (entAt L id).rule.right)).length) = (txB L back (if back then (entAt L id).rule.right else (entAt L id).rule.left)).length - n by omega, List.drop_append_of_le_length (by omega)]
theorem cpl_append (u : List Int) : ∀ a b : List Int, cpl (u ++ a) (u ++ b) = u.length + cpl a b := by
 induction u with
 | nil => intro a b; simp
 | cons x u ih =>
  intro a b
  show (if x = x then cpl (u ++ a) (u ++ b) + 1 else 0) = _
  rw [if_pos rfl, ih, List.length_cons]; omega
end Go.Proofs.YtgldjpldldknoaaGreatDoor
/- Readers (plain): what newReader leaves, and what each step of common does. -/
set_option linter.unusedSimpArgs false
set_option linter.unusedVariables false
namespace Go.Proofs.YtgldjpldldknoaaGreatDoor
open Go.RowKit
def GAll (L : List Ent) (td : List (Int × Int)) : Prop := ∀ p ∈ td, GOk L p
theorem GAll.nil (L : List Ent) : GAll L [] := fun p hp => by simp at hp
theorem GAll.app {L : List Ent} {a b : List (Int × Int)} (ha : GAll L a) (hb : GAll L b) : GAll L (a ++ b) := fun p hp => by
 rcases List.mem_append.1 hp with h | h
 · exact ha p h
 · exact hb p h
theorem GAll.left {L : List Ent} {a b : List (Int × Int)} (h : GAll L (a ++ b)) : GAll L a := fun p hp => h p (List.mem_append_left _ hp)
theorem GAll.right {L : List Ent} {a b : List (Int × Int)} (h : GAll L (a ++ b)) : GAll L b := fun p hp => h p (List.mem_append_right _ hp)
theorem GAll.one {L : List Ent} {p : Int × Int} (h : GOk L p) : GAll L [p] := fun q hq => by
 rw [List.mem_singleton] at hq; rw [hq]; exact h
theorem GAll.last {L : List Ent} {a : List (Int × Int)} {p : Int × Int} (h : GAll L (a ++ [p])) : GOk L p := h p (List.mem_append_right _ (List.mem_singleton.2 rfl))
theorem GOk.times {L : List Ent} {x k k' : Int} (h : GOk L (x, k)) (hk : 1 ≤ k') : GOk L (x, k') := ⟨h.kn, h.ne, h.lv, hk⟩
theorem GAll.drp {L : List Ent} {td : List (Int × Int)} {x k k' : Int} (h : GAll L (td ++ [(x, k)])) (hk : 0 ≤ k') : GAll L (drpG td x k') := by
 unfold drpG
 split
 · exact h.left
 · exact h.left.app (GAll.one (h.last.times (by omega)))
theorem GAll.len {L : List Ent} (hS : SOk L) (hD : DOk L) (back : Bool) : ∀ {td : List (Int × Int)}, GAll L td → td.length ≤ (restG L back td).length
 | [], _ => Nat.zero_le _
 | p :: r, h => by
  have ih := GAll.len hS hD back (td := r) (fun q hq => h q (List.mem_cons_of_mem _ hq))
  have hp := h p List.mem_cons_self
  have e : restG L back (p :: r) = restG L back r ++ restG L back [p] := restG_append L back [p] r
  have e2 : restG L back [p] = reps (txB L back p.1) p.2.toNat := by
   show reps (txB L back p.1) p.2.toNat ++ [] = _
   rw [List.append_nil]
  have hl := txt_pos hS hD hp.kn hp.ne
  have ht := hp.tm
  rw [e, e2, List.length_append, reps_len, txB_len, List.length_cons]
  have h1 : 1 * 1 ≤ p.2.toNat * (txt L p.1).length := Nat.mul_le_mul (by omega) hl
  omega
structure CmI (L : List Ent) (back : Bool) (C : Nat) (tx ty : List (Int × Int)) (sum : Nat) : Prop where
 gx : GAll L tx
 gy : GAll L ty
 sum : sum + cpl (restG L back tx) (restG L back ty) = C
def mesG (L : List Ent) (back : Bool) (tx ty : List (Int × Int)) : Nat := potG L tx + potG L ty + (restG L back tx).length
theorem potG_drp (L : List Ent) (td : List (Int × Int)) (x k j : Int) (hj : 0 ≤ j) (hk : j ≤ k) : potG L (drpG td x (k - j)) + j.toNat * ((txt L x).length - 1) = potG L (td ++ [(x, k)]) := by
 have e : ∀ m : Int, potG L (td ++ [(x, m)]) = potG L td + m.toNat * ((txt L x).length - 1) := fun m => by rw [potG_append]; rfl
 have e2 : potG L (drpG td x (k - j)) = potG L td + (k - j).toNat * ((txt L x).length - 1) := by
  unfold drpG
  split
  · rename_i h; rw [h]; simp
  · exact e _
 rw [e2, e, Nat.add_assoc, ← Nat.add_mul]
 congr 2
 omega
theorem CmI.same {L : List Ent} {back : Bool} {C : Nat} {tx ty : List (Int × Int)} {a k m t : Int} {sum : Nat} (hS : SOk L) (hD : DOk L) (h : CmI L back C (tx ++ [(a, k)]) (ty ++ [(a, m)]) sum) (ht1 : 1 ≤ t) (hk : t ≤ k) (hm : t ≤ m) :
    CmI L back C (drpG tx a (k - t)) (drpG ty a (m - t)) (sum + t.toNat * (txt L a).length) ∧ mesG L back (drpG tx a (k - t)) (drpG ty a (m - t)) < mesG L back (tx ++ [(a, k)]) (ty ++ [(a, m)]) := by
 have hs := h.sum
 have hl := txt_pos hS hD h.gx.last.kn h.gx.last.ne
 rw [restG_drop L back tx a k t (by omega) hk, restG_drop L back ty a m t (by omega) hm, cpl_append, reps_len, txB_len] at hs
 refine ⟨⟨h.gx.drp (by omega), h.gy.drp (by omega), by omega⟩, ?_⟩
 have p1 := potG_drp L tx a k t (by omega) hk
 have p2 := potG_drp L ty a m t (by omega) hm
 have e := congrArg List.length (restG_drop L back tx a k t (by omega) hk)
 rw [List.length_append, reps_len, txB_len] at e
 have h1 : 1 * 1 ≤ t.toNat * (txt L a).length := Nat.mul_le_mul (by omega) hl
 unfold mesG
 rw [e]
 omega
theorem CmI.end_ {L : List Ent} {back : Bool} {C : Nat} {tx ty : List (Int × Int)} {sum : Nat} (h : CmI L back C tx ty sum) (he : tx = [] ∨ ty = []) : sum = C := by
 have hs := h.sum
 have : cpl (restG L back tx) (restG L back ty) = 0 := by
  have hl := cpl_le (restG L back tx) (restG L back ty)
  rcases he with e | e
  · rw [e, restG_nil] at hl ⊢; have := hl.1; simp at this; exact this
  · rw [e, restG_nil] at hl ⊢; have := hl.2; simp at this; exact this
 omega
structure NrI (L : List Ent) (back : Bool) (R : List Int) (id : Int) (n : Nat) (td : List (Int × Int)) (q : Int) : Prop where
 g : GAll L (td ++ [(id, q + 1)])
 q0 : 0 ≤ q
 n1 : 1 ≤ n
 n2 : n ≤ (txt L id).length
 rest : tailG L back id n ++ (reps (txB L back id) q.toNat ++ restG L back td) = R
theorem restG_drp (L : List Ent) (back : Bool) (td : List (Int × Int)) (x k : Int) : restG L back (drpG td x k) = reps (txB L back x) k.toNat ++ restG L back td := by
 unfold drpG
 split
 · rename_i h; rw [h]; rfl
 · rw [restG_push]
theorem NrI.start {L : List Ent} {back : Bool} {id : Int} {n : Nat} (hg : GOk L (id, 1)) (h1 : 1 ≤ n) (h2 : n ≤ (txt L id).length) : NrI L back (tailG L back id n) id n [] 0 :=
 ⟨by exact GAll.one hg, by omega, h1, h2, by rw [restG_nil]; simp [reps]⟩
theorem NrI.done {L : List Ent} {back : Bool} {R : List Int} {id : Int} {n : Nat} {td : List (Int × Int)} {q : Int} (h : NrI L back R id n td q) (hn : (txt L id).length ≤ n) : restG L back (td ++ [(id, q + 1)]) = R := by
 have hr := h.rest
 have h2 := h.n2
 have hq := h.q0
 rw [show n = (txt L id).length by omega, tailG_all] at hr
 rw [restG_push]
 dsimp only
 rw [show (q + 1).toNat = q.toNat + 1 by omega, reps_succ, List.append_assoc]
 exact hr
theorem NrI.pow {L : List Ent} {back : Bool} {R : List Int} {id : Int} {n : Nat} {td : List (Int × Int)} {q : Int} (hS : SOk L) (hD : DOk L) (h : NrI L back R id n td q) (h3 : (entAt L id).rule.kind = 3) (q' n' once : Nat) (ho : once = (txt L (entAt L id).rule.left).length) (hq' : q' = (n - 1) / once) (hn' : n' = (n - 1) % once + 1) :
    NrI L back R (entAt L id).rule.left n' (drpG td id q) q' ∧ (q' : Int) + 1 ≤ (entAt L id).rule.times ∧ (entAt L id).rule.left < id ∧ 1 ≤ once := by
 have hg := h.g.last
 have h1 := h.n1
 have h2 := h.n2
 have hk := (kids_ok (back := back) hS hD hg.kn hg.ne hg.lv ((entAt L id).rule.left, (entAt L id).rule.times) (by unfold opnG; rw [if_pos h3]; exact List.mem_singleton.2 rfl))
 have hp := txt_pos hS hD hk.1.kn hk.1.ne
 dsimp only at hp
 have hl : (txt L id).length = (entAt L id).rule.times.toNat * once := by
  have := congrArg List.length (txt_pow hD hg.kn hg.ne h3)
  rw [reps_len] at this
  rw [ho]; exact this
 have ht := hk.1.tm
 dsimp only at ht
 have hm := Nat.div_add_mod (n - 1) once
 have hlt := Nat.mod_lt (n - 1) (show 0 < once by omega)
 have hql : q' + 1 ≤ (entAt L id).rule.times.toNat := by
  rw [hq']
  refine Nat.lt_of_mul_lt_mul_right (a := once) ?_
  rw [Nat.mul_comm]
  omega
 have hn : n = q' * once + n' := by
  rw [hq', hn', Nat.mul_comm]; omega
 refine ⟨⟨(h.g.drp (k' := q) h.q0).app (GAll.one ⟨hk.1.kn, hk.1.ne, hk.1.lv, by show 1 ≤ (q' : Int) + 1; omega⟩), by omega, by omega, by omega, ?_⟩, by omega, hk.2, by omega⟩
 have hr := h.rest
 have hle : n' ≤ (txt L (entAt L id).rule.left).length := by omega
 rw [hn, ho, tailG_pow (n' := n') (q := q') hD back hg.kn hg.ne h3 hle hql] at hr
 rw [restG_drp, Int.toNat_natCast, ← hr, List.append_assoc]
theorem NrI.far {L : List Ent} {back : Bool} {R : List Int} {id : Int} {n : Nat} {td : List (Int × Int)} {q : Int} (hS : SOk L) (hD : DOk L) (h : NrI L back R id n td q) (h2 : (entAt L id).rule.kind = 2) {far : Int} (hf : far = (if back then (entAt L id).rule.left else (entAt L id).rule.right)) (hn : n ≤ (txt L far).length) :
    NrI L back R far n (drpG td id q) 0 ∧ far < id := by
 have hg := h.g.last
 have hk := (kids_ok (back := back) hS hD hg.kn hg.ne hg.lv (far, 1) (by unfold opnG; rw [if_neg (by rw [h2]; decide), if_pos h2, hf]; cases back <;> simp))
 refine ⟨⟨(h.g.drp (k' := q) h.q0).app (GAll.one hk.1), by omega, h.n1, hn, ?_⟩, hk.2⟩
 have hr := h.rest
 rw [tailG_far hD back hg.kn hg.ne h2 (by rw [← hf]; exact hn), ← hf] at hr
 rw [restG_drp, ← hr]
 rfl
theorem NrI.near {L : List Ent} {back : Bool} {R : List Int} {id : Int} {n : Nat} {td : List (Int × Int)} {q : Int} (hS : SOk L) (hD : DOk L) (h : NrI L back R id n td q) (h2 : (entAt L id).rule.kind = 2) {far near : Int} (hf : far = (if back then (entAt L id).rule.left else (entAt L id).rule.right)) (hf2 : near = (if back then (entAt L id).rule.right else (entAt L id).rule.left)) (hn : (txt L far).length < n) :
    NrI L back R near (n - (txt L far).length) (drpG td id q ++ [(far, 1)]) 0 ∧ near < id := by
 have hg := h.g.last
 have hk := (kids_ok (back := back) hS hD hg.kn hg.ne hg.lv (far, 1) (by unfold opnG; rw [if_neg (by rw [h2]; decide), if_pos h2, hf]; cases back <;> simp))
 have hk2 := (kids_ok (back := back) hS hD hg.kn hg.ne hg.lv (near, 1) (by unfold opnG; rw [if_neg (by rw [h2]; decide), if_pos h2, hf2]; cases back <;> simp))
 have hl : (txt L id).length = (txt L near).length + (txt L far).length := by
  have := congrArg List.length (txB_pair hD back hg.kn hg.ne h2)
  rw [List.length_append, txB_len, txB_len, txB_len, ← hf, ← hf2] at this
  exact this
 have hn2 := h.n2
 have hle : n - (txt L far).length ≤ (txt L near).length := by omega
 refine ⟨⟨((h.g.drp (k' := q) h.q0).app (GAll.one hk.1)).app (GAll.one hk2.1), by omega, by omega, hle, ?_⟩, hk2.2⟩
 have hr := h.rest
 have hx := tailG_near hD back hg.kn hg.ne h2 (n := n - (txt L far).length) (by rw [← hf2]; exact hle)
 rw [← hf, ← hf2, show n - (txt L far).length + (txt L far).length = n by omega] at hx
 rw [hx, List.append_assoc] at hr
 rw [restG_push, restG_drp, ← hr]
 dsimp only
 rw [show ((1 : Int)).toNat = 1 by decide, reps_one]
 rfl
theorem tailG_len (L : List Ent) (back : Bool) (id : Int) {n : Nat} (h : n ≤ (txt L id).length) : (tailG L back id n).length = n := by
 unfold tailG; rw [List.length_drop, txB_len]; omega
theorem NrI.bnd {L : List Ent} {back : Bool} {R : List Int} {id : Int} {n : Nat} {td : List (Int × Int)} {q : Int} (hS : SOk L) (hD : DOk L) (h : NrI L back R id n td q) : td.length ≤ R.length ∧ q ≤ R.length := by
 have e := congrArg List.length h.rest
 rw [List.length_append, List.length_append, tailG_len _ _ _ h.n2, reps_len, txB_len] at e
 have h1 := GAll.len hS hD back h.g.left
 have hl := txt_pos hS hD h.g.last.kn h.g.last.ne
 have h2 : q.toNat * 1 ≤ q.toNat * (txt L id).length := Nat.mul_le_mul_left _ hl
 have h3 := h.q0
 omega
theorem NrI.opn2 {L : List Ent} {back : Bool} {id : Int} (h2 : (entAt L id).rule.kind = 2) {far near : Int} (hf : far = (if back then (entAt L id).rule.left else (entAt L id).rule.right)) (hf2 : near = (if back then (entAt L id).rule.right else (entAt L id).rule.left)) : opnG L back id = [(far, 1), (near, 1)] := by
 unfold opnG; rw [if_neg (by rw [h2]; decide), if_pos h2, hf, hf2]; cases back <;> rfl
theorem NrI.opn3 {L : List Ent} {back : Bool} {id : Int} (h3 : (entAt L id).rule.kind = 3) : opnG L back id = [((entAt L id).rule.left, (entAt L id).rule.times)] := by
 unfold opnG; rw [if_pos h3]
end Go.Proofs.YtgldjpldldknoaaGreatDoor
/- Ranges of texts (plain): how a range of a pair or of a power divides. -/
set_option linter.unusedSimpArgs false
set_option linter.unusedVariables false
namespace Go.Proofs.YtgldjpldldknoaaGreatDoor
open Go.RowKit
def rngT (t : List Int) (f n : Nat) : List Int := (t.drop f).take n
theorem rngT_len {t : List Int} {f n : Nat} (h : f + n ≤ t.length) : (rngT t f n).length = n := by
 unfold rngT; rw [List.length_take, List.length_drop]; omega
theorem rngT_zero (t : List Int) (f : Nat) : rngT t f 0 = [] := by unfold rngT; rw [List.take_zero]
theorem rngT_all (t : List Int) : rngT t 0 t.length = t := by unfold rngT; simp
theorem rngT_append (s t : List Int) {f n g : Nat} (hg : g = min (s.length - f) n) (hf : f + n ≤ s.length + t.length) : rngT (s ++ t) f n = rngT s (min f s.length) g ++ rngT t (f - s.length) (n - g) := by
 unfold rngT
 rw [List.drop_append, List.take_append, List.length_drop]
 by_cases h : f ≤ s.length
 · rw [Nat.min_eq_left h]
   congr 1
   · by_cases h2 : n ≤ s.length - f
     · rw [hg, Nat.min_eq_right h2]
     · rw [List.take_of_length_le (by rw [List.length_drop]; omega), List.take_of_length_le (by rw [List.length_drop]; omega)]
   · congr 1
     omega
 · rw [Nat.min_eq_right (by omega), List.drop_of_length_le (by omega : s.length ≤ f), List.drop_length]
   simp only [List.take_nil, List.nil_append]
   congr 1
   omega
theorem take_reps (t : List Int) (h : 1 ≤ t.length) : ∀ (j n : Nat), n ≤ j * t.length → (reps t j).take n = reps t (n / t.length) ++ t.take (n % t.length)
 | 0, n => by
  intro hn
  have : n = 0 := by omega
  subst this
  simp [reps]
 | j + 1, n => by
  intro hn
  rw [reps_succ, List.take_append]
  by_cases hlt : n < t.length
  · rw [Nat.div_eq_of_lt hlt, Nat.mod_eq_of_lt hlt, show n - t.length = 0 by omega, List.take_zero, List.append_nil, reps_zero, List.nil_append]
  · have hle : t.length ≤ n := by omega
    rw [Nat.add_mul, Nat.one_mul] at hn
    rw [List.take_of_length_le hle, take_reps t h j (n - t.length) (by omega)]
    rw [Nat.div_eq_sub_div (by omega) hle, Nat.mod_eq_sub_mod hle, reps_succ, List.append_assoc]
theorem drop_reps2 (t : List Int) (h : 1 ≤ t.length) : ∀ (m f : Nat), f < m * t.length → (reps t m).drop f = t.drop (f % t.length) ++ reps t (m - f / t.length - 1)
 | 0, f => by intro hf; omega
 | m + 1, f => by
  intro hf
  rw [Nat.add_mul, Nat.one_mul] at hf
  rw [reps_succ, List.drop_append]
  by_cases hlt : f < t.length
  · rw [Nat.div_eq_of_lt hlt, Nat.mod_eq_of_lt hlt, show f - t.length = 0 by omega, List.drop_zero, show m + 1 - 0 - 1 = m by omega]
  · have hle : t.length ≤ f := by omega
    have hd : f / t.length = (f - t.length) / t.length + 1 := Nat.div_eq_sub_div (by omega) hle
    rw [List.drop_of_length_le hle, List.nil_append, drop_reps2 t h m (f - t.length) (by omega), Nat.mod_eq_sub_mod hle, hd]
    congr 2
    omega
theorem rngT_reps1 (t : List Int) (h : 1 ≤ t.length) {m f n : Nat} (h1 : 1 ≤ n) (hf : f + n ≤ m * t.length) (hn : f % t.length + n ≤ t.length) : rngT (reps t m) f n = rngT t (f % t.length) n := by
 unfold rngT
 rw [drop_reps2 t h m f (by omega), List.take_append_of_le_length (by rw [List.length_drop]; omega)]
theorem div_lt_m {m k f n : Nat} (h : 1 ≤ k) (h1 : 1 ≤ n) (hf : f + n ≤ m * k) : f / k < m := by
 rw [Nat.div_lt_iff_lt_mul (by omega)]; omega
theorem rngT_reps3 (t : List Int) (h : 1 ≤ t.length) {m f n hd : Nat} (h1 : 1 ≤ n) (hf : f + n ≤ m * t.length) (hn : t.length < f % t.length + n) (hhd : hd = (t.length - f % t.length) % t.length) :
    rngT (reps t m) f n = rngT t (f % t.length) hd ++ (reps t ((n - hd) / t.length) ++ rngT t 0 ((n - hd) % t.length)) ∧ hd ≤ n ∧ f % t.length + hd ≤ t.length := by
 have hml := Nat.mod_lt f (show 0 < t.length by omega)
 have hdm := Nat.div_add_mod f t.length
 have hq := div_lt_m h h1 hf
 have hrest : ∀ j, m - f / t.length - 1 = j → m * t.length = f / t.length * t.length + t.length + j * t.length := fun j hj => by
  obtain rfl : m = f / t.length + 1 + j := by omega
  rw [Nat.add_mul, Nat.add_mul, Nat.one_mul]
 have hj := hrest _ rfl
 have e0 : f / t.length * t.length = t.length * (f / t.length) := Nat.mul_comm _ _
 have ed : rngT (reps t m) f n = (t.drop (f % t.length) ++ reps t (m - f / t.length - 1)).take n := by
  unfold rngT
  rw [drop_reps2 t h m f (by omega)]
 by_cases hz : f % t.length = 0
 · have hd0 : hd = 0 := by rw [hhd, hz, Nat.sub_zero, Nat.mod_self]
   refine ⟨?_, by omega, by omega⟩
   rw [ed, hz, List.drop_zero, ← reps_succ, take_reps t h _ n (by rw [Nat.add_mul, Nat.one_mul]; omega), hd0, rngT_zero, List.nil_append, Nat.sub_zero]
   unfold rngT
   rw [List.drop_zero]
 · have hdd : hd = t.length - f % t.length := by rw [hhd]; exact Nat.mod_eq_of_lt (by omega)
   refine ⟨?_, by omega, by omega⟩
   rw [ed, List.take_append, List.take_of_length_le (by rw [List.length_drop]; omega), List.length_drop, ← hdd, take_reps t h _ (n - hd) (by omega)]
   congr 1
   unfold rngT
   rw [hdd, List.take_of_length_le (by rw [List.length_drop]; omega)]
structure Sp where
 id : Int
 from_ : Nat
 n : Nat
 times : Nat
def spT (L : List Ent) (s : Sp) : List Int := reps (rngT (txt L s.id) s.from_ s.n) s.times
structure SpOk (L : List Ent) (s : Sp) : Prop where
 kn : isKnown L s.id
 fit : s.from_ + s.n ≤ (txt L s.id).length
 one : s.times = 1 ∨ (s.from_ = 0 ∧ s.n = (txt L s.id).length)
def restS (L : List Ent) (ss : List Sp) : List Int := (ss.reverse.map (spT L)).flatten
theorem restS_nil (L : List Ent) : restS L [] = [] := rfl
theorem restS_push (L : List Ent) (ss : List Sp) (s : Sp) : restS L (ss ++ [s]) = spT L s ++ restS L ss := by
 unfold restS; rw [List.reverse_append]; rfl
def mesS (ss : List Sp) : Nat := (ss.map fun s => if s.times = 0 then 1 else 1 + 4 * s.n * s.id.toNat).sum
theorem mesS_push (ss : List Sp) (s : Sp) : mesS (ss ++ [s]) = mesS ss + (if s.times = 0 then 1 else 1 + 4 * s.n * s.id.toNat) := by
 unfold mesS; rw [List.map_append, List.sum_append]; simp
def SAll (L : List Ent) (ss : List Sp) : Prop := ∀ s ∈ ss, SpOk L s
theorem SAll.last {L : List Ent} {ss : List Sp} {s : Sp} (h : SAll L (ss ++ [s])) : SpOk L s := h s (by simp)
theorem SAll.init {L : List Ent} {ss : List Sp} {s : Sp} (h : SAll L (ss ++ [s])) : SAll L ss := fun x hx => h x (by simp [hx])
theorem SAll.push {L : List Ent} {ss : List Sp} {s : Sp} (h : SAll L ss) (hs : SpOk L s) : SAll L (ss ++ [s]) := fun x hx => by
 rcases List.mem_append.1 hx with h1 | h1
 · exact h x h1
 · rw [List.mem_singleton.1 h1]; exact hs
theorem spT_none {L : List Ent} {s : Sp} (h : s.n = 0 ∨ s.times = 0) : spT L s = [] := by
 unfold spT
 rcases h with h | h
 · rw [h, rngT_zero]
   induction s.times with
   | zero => rfl
   | succ k ih => rw [reps_succ, ih]; rfl
 · rw [h]; rfl
theorem spT_all {L : List Ent} {s : Sp} (h : SpOk L s) (hn : s.n = (txt L s.id).length) : spT L s = reps (txt L s.id) s.times := by
 have h1 := h.fit
 unfold spT
 rw [hn, show s.from_ = 0 by omega, rngT_all]
theorem SpOk.times {L : List Ent} {s : Sp} (h : SpOk L s) (hn : s.n ≠ (txt L s.id).length) : s.times = 1 := by
 rcases h.one with e | e
 · exact e
 · exact absurd e.2 hn
theorem pair_parts {L : List Ent} (hS : SOk L) (hD : DOk L) {ss : List Sp} {s : Sp} (h : SAll L (ss ++ [s])) (hn : s.n ≠ (txt L s.id).length) (h1 : s.n ≠ 0) (h2 : (entAt L s.id).rule.kind = 2) (g : Nat) (hg : g = min ((txt L (entAt L s.id).rule.left).length - s.from_) s.n) :
    SAll L (ss ++ [⟨(entAt L s.id).rule.right, s.from_ - (txt L (entAt L s.id).rule.left).length, s.n - g, 1⟩, ⟨(entAt L s.id).rule.left, min s.from_ (txt L (entAt L s.id).rule.left).length, g, 1⟩]) ∧
    restS L (ss ++ [⟨(entAt L s.id).rule.right, s.from_ - (txt L (entAt L s.id).rule.left).length, s.n - g, 1⟩, ⟨(entAt L s.id).rule.left, min s.from_ (txt L (entAt L s.id).rule.left).length, g, 1⟩]) = restS L (ss ++ [s]) ∧
    mesS (ss ++ [⟨(entAt L s.id).rule.right, s.from_ - (txt L (entAt L s.id).rule.left).length, s.n - g, 1⟩, ⟨(entAt L s.id).rule.left, min s.from_ (txt L (entAt L s.id).rule.left).length, g, 1⟩]) < mesS (ss ++ [s]) := by
 have hs := h.last
 have hk := hs.kn
 have ht := hs.times hn
 have hf := hs.fit
 have h0 : s.id ≠ 0 := fun e => by rw [e, txt_zero] at hf; simp at hf; omega
 obtain ⟨k1, k2⟩ : (1 ≤ (entAt L s.id).rule.left ∧ (entAt L s.id).rule.left < s.id) ∧ (1 ≤ (entAt L s.id).rule.right ∧ (entAt L s.id).rule.right < s.id) := by
  rcases hD.at s.id hk h0 with ⟨e, _⟩ | ⟨_, e, _⟩ | ⟨e, _⟩
  · omega
  · exact ⟨⟨e.1, e.2.1⟩, e.2.2⟩
  · omega
 have hl := txt_pair hD hk h0 h2
 have hll := congrArg List.length hl
 rw [List.length_append] at hll
 have hkn := hk.2
 have e : ∀ (x y : Sp), ss ++ [x, y] = (ss ++ [x]) ++ [y] := fun x y => by simp
 rw [e]
 refine ⟨(h.init.push ⟨⟨by show (0 : Int) ≤ (entAt L s.id).rule.right; omega, by show (entAt L s.id).rule.right ≤ _; omega⟩, ?_, .inl rfl⟩).push ⟨⟨by show (0 : Int) ≤ (entAt L s.id).rule.left; omega, by show (entAt L s.id).rule.left ≤ _; omega⟩, ?_, .inl rfl⟩, ?_, ?_⟩
 · show s.from_ - _ + (s.n - g) ≤ (txt L (entAt L s.id).rule.right).length
   omega
 · show min s.from_ _ + g ≤ (txt L (entAt L s.id).rule.left).length
   omega
 · rw [restS_push, restS_push, restS_push, ← List.append_assoc]
   congr 1
   show reps _ 1 ++ reps _ 1 = reps _ _
   rw [ht, reps_one, reps_one, reps_one]
   show rngT _ _ _ ++ rngT _ _ _ = rngT _ _ _
   rw [hl, rngT_append _ _ hg (by omega)]
 · rw [mesS_push, mesS_push, mesS_push, ht]
   show mesS ss + (1 + 4 * (s.n - g) * (entAt L s.id).rule.right.toNat) + (1 + 4 * g * (entAt L s.id).rule.left.toNat) < mesS ss + (1 + 4 * s.n * s.id.toNat)
   have m1 : 4 * (s.n - g) * (entAt L s.id).rule.right.toNat ≤ 4 * (s.n - g) * (s.id.toNat - 1) := Nat.mul_le_mul_left _ (by omega)
   have m2 : 4 * g * (entAt L s.id).rule.left.toNat ≤ 4 * g * (s.id.toNat - 1) := Nat.mul_le_mul_left _ (by omega)
   have m3 : 4 * (s.n - g) * (s.id.toNat - 1) + 4 * g * (s.id.toNat - 1) = 4 * s.n * (s.id.toNat - 1) := by
    rw [← Nat.add_mul]; congr 1; omega
   have m4 : 4 * s.n * s.id.toNat = 4 * s.n * (s.id.toNat - 1) + 4 * s.n := by
    obtain ⟨q, hq⟩ : ∃ q, s.id.toNat = q + 1 := ⟨s.id.toNat - 1, by omega⟩
    rw [hq, Nat.mul_succ, Nat.add_sub_cancel]
   omega
theorem pow_part1 {L : List Ent} (hS : SOk L) (hD : DOk L) {ss : List Sp} {s : Sp} (h : SAll L (ss ++ [s])) (hn : s.n ≠ (txt L s.id).length) (h1 : s.n ≠ 0) (h3 : (entAt L s.id).rule.kind = 3) (hfit : s.from_ % (txt L (entAt L s.id).rule.left).length + s.n ≤ (txt L (entAt L s.id).rule.left).length) :
    SAll L (ss ++ [⟨(entAt L s.id).rule.left, s.from_ % (txt L (entAt L s.id).rule.left).length, s.n, 1⟩]) ∧
    restS L (ss ++ [⟨(entAt L s.id).rule.left, s.from_ % (txt L (entAt L s.id).rule.left).length, s.n, 1⟩]) = restS L (ss ++ [s]) ∧
    mesS (ss ++ [⟨(entAt L s.id).rule.left, s.from_ % (txt L (entAt L s.id).rule.left).length, s.n, 1⟩]) < mesS (ss ++ [s]) := by
 have hs := h.last
 have hk := hs.kn
 have ht := hs.times hn
 have hf := hs.fit
 have h0 : s.id ≠ 0 := fun e => by rw [e, txt_zero] at hf; simp at hf; omega
 have k1 : 1 ≤ (entAt L s.id).rule.left ∧ (entAt L s.id).rule.left < s.id := by
  rcases hD.at s.id hk h0 with ⟨e, _⟩ | ⟨e, _⟩ | ⟨_, e, _⟩
  · omega
  · omega
  · exact e
 have hl := txt_pow hD hk h0 h3
 have hll := congrArg List.length hl
 rw [reps_len] at hll
 have hkn := hk.2
 have hkl : isKnown L (entAt L s.id).rule.left := ⟨by omega, by omega⟩
 have hp := txt_pos hS hD hkl (by omega)
 refine ⟨h.init.push ⟨hkl, hfit, .inl rfl⟩, ?_, ?_⟩
 · rw [restS_push, restS_push]
   congr 1
   show reps _ 1 = reps _ _
   rw [ht, reps_one, reps_one]
   show rngT _ _ _ = rngT _ _ _
   rw [hl, rngT_reps1 _ hp (by omega) (by omega) hfit]
 · rw [mesS_push, mesS_push, ht]
   show mesS ss + (1 + 4 * s.n * (entAt L s.id).rule.left.toNat) < mesS ss + (1 + 4 * s.n * s.id.toNat)
   have : 4 * s.n * (entAt L s.id).rule.left.toNat < 4 * s.n * s.id.toNat := Nat.mul_lt_mul_of_pos_left (by omega) (by omega)
   omega
theorem pow_part3 {L : List Ent} (hS : SOk L) (hD : DOk L) {ss : List Sp} {s : Sp} (h : SAll L (ss ++ [s])) (hn : s.n ≠ (txt L s.id).length) (h1 : s.n ≠ 0) (h3 : (entAt L s.id).rule.kind = 3) (k f hd : Nat) (ek : k = (txt L (entAt L s.id).rule.left).length) (ef : f = s.from_ % k) (hfit : k < f + s.n) (ehd : hd = (k - f) % k) :
    SAll L (ss ++ [⟨(entAt L s.id).rule.left, 0, (s.n - hd) % k, 1⟩, ⟨(entAt L s.id).rule.left, 0, k, (s.n - hd) / k⟩, ⟨(entAt L s.id).rule.left, f, hd, 1⟩]) ∧
    restS L (ss ++ [⟨(entAt L s.id).rule.left, 0, (s.n - hd) % k, 1⟩, ⟨(entAt L s.id).rule.left, 0, k, (s.n - hd) / k⟩, ⟨(entAt L s.id).rule.left, f, hd, 1⟩]) = restS L (ss ++ [s]) ∧
    mesS (ss ++ [⟨(entAt L s.id).rule.left, 0, (s.n - hd) % k, 1⟩, ⟨(entAt L s.id).rule.left, 0, k, (s.n - hd) / k⟩, ⟨(entAt L s.id).rule.left, f, hd, 1⟩]) < mesS (ss ++ [s]) ∧ hd ≤ s.n ∧ 1 ≤ k := by
 have hs := h.last
 have hk := hs.kn
 have ht := hs.times hn
 have hf := hs.fit
 have h0 : s.id ≠ 0 := fun e => by rw [e, txt_zero] at hf; simp at hf; omega
 have k1 : 1 ≤ (entAt L s.id).rule.left ∧ (entAt L s.id).rule.left < s.id := by
  rcases hD.at s.id hk h0 with ⟨e, _⟩ | ⟨e, _⟩ | ⟨_, e, _⟩
  · omega
  · omega
  · exact e
 have hl := txt_pow hD hk h0 h3
 have hll := congrArg List.length hl
 rw [reps_len] at hll
 have hkn := hk.2
 have hkl : isKnown L (entAt L s.id).rule.left := ⟨by omega, by omega⟩
 have hp := txt_pos hS hD hkl (by omega)
 have ek2 := ek
 subst ek
 subst ef
 obtain ⟨e1, e2, e3⟩ := rngT_reps3 _ hp (by omega) (by omega) hfit ehd (m := (entAt L s.id).rule.times.toNat)
 have hm := Nat.mod_lt (s.n - hd) (show 0 < (txt L (entAt L s.id).rule.left).length by omega)
 have hdm := Nat.div_add_mod (s.n - hd) (txt L (entAt L s.id).rule.left).length
 have e : ∀ (x y z : Sp), ss ++ [x, y, z] = ((ss ++ [x]) ++ [y]) ++ [z] := fun x y z => by simp
 rw [e]
 refine ⟨((h.init.push ⟨hkl, by show 0 + (s.n - hd) % (txt L (entAt L s.id).rule.left).length ≤ (txt L (entAt L s.id).rule.left).length; omega, .inl rfl⟩).push ⟨hkl, by show 0 + (txt L (entAt L s.id).rule.left).length ≤ (txt L (entAt L s.id).rule.left).length; omega, .inr ⟨rfl, rfl⟩⟩).push ⟨hkl, e3, .inl rfl⟩, ?_, ?_, e2, hp⟩
 · rw [restS_push, restS_push, restS_push, restS_push, ← List.append_assoc, ← List.append_assoc]
   congr 1
   show (reps _ 1 ++ reps (rngT _ 0 _) _) ++ reps _ 1 = reps _ _
   rw [ht, reps_one, reps_one, reps_one]
   show (rngT _ _ _ ++ reps (rngT _ 0 _) _) ++ rngT _ 0 _ = rngT _ _ _
   rw [hl, e1, rngT_all, List.append_assoc]
 · rw [mesS_push, mesS_push, mesS_push, mesS_push, ht]
   show mesS ss + (1 + 4 * ((s.n - hd) % _) * (entAt L s.id).rule.left.toNat) + (if (s.n - hd) / _ = 0 then 1 else 1 + 4 * (txt L (entAt L s.id).rule.left).length * (entAt L s.id).rule.left.toNat) + (1 + 4 * hd * (entAt L s.id).rule.left.toNat) < mesS ss + (1 + 4 * s.n * s.id.toNat)
   generalize (txt L (entAt L s.id).rule.left).length = K at *
   have m0 : 4 * s.n * s.id.toNat = 4 * s.n * (s.id.toNat - 1) + 4 * s.n := by
    obtain ⟨q, hq⟩ : ∃ q, s.id.toNat = q + 1 := ⟨s.id.toNat - 1, by omega⟩
    rw [hq, Nat.mul_succ, Nat.add_sub_cancel]
   have mm : ∀ x : Nat, 4 * x * (entAt L s.id).rule.left.toNat ≤ 4 * x * (s.id.toNat - 1) := fun x => Nat.mul_le_mul_left _ (by omega)
   have c1 := mm ((s.n - hd) % K)
   have c2 := mm K
   have c3 := mm hd
   generalize s.id.toNat - 1 = q at *
   have hsum : ∀ t : Nat, (s.n - hd) % K + t + hd ≤ s.n → 4 * ((s.n - hd) % K) * q + 4 * t * q + 4 * hd * q ≤ 4 * s.n * q := fun t htt => by
    rw [← Nat.add_mul, ← Nat.add_mul]
    exact Nat.mul_le_mul_right _ (by omega)
   by_cases hz : (s.n - hd) / K = 0
   · rw [if_pos hz]
     have hle := Nat.mod_le (s.n - hd) K
     have := hsum 0 (by omega)
     omega
   · rw [if_neg hz]
     have h4 : K * 1 ≤ K * ((s.n - hd) / K) := Nat.mul_le_mul_left _ (Nat.pos_of_ne_zero hz)
     have := hsum K (by omega)
     omega
end Go.Proofs.YtgldjpldldknoaaGreatDoor
/- A map from IDs to IDs, held exactly. -/
set_option linter.unusedSimpArgs false
set_option linter.unusedVariables false
namespace Go.Proofs.YtgldjpldldknoaaGreatDoor
open Go.RowKit
def knEntries : Nat → List (Int × Int) → List MapEntry
 | _, [] => []
 | i, x :: r => { key := .int .i64 x.1, val := .int .i64 x.2, born := i } :: knEntries (i + 1) r
theorem knEntries_push (x : Int × Int) : ∀ (xs : List (Int × Int)) (i : Nat), knEntries i (xs ++ [x]) = knEntries i xs ++ [{ key := .int .i64 x.1, val := .int .i64 x.2, born := i + xs.length }] := by
 intro xs
 induction xs with
 | nil => intro i; simp [knEntries]
 | cons y r ih =>
  intro i
  simp only [List.cons_append, knEntries, ih (i + 1), List.length_cons]
  rw [show i + 1 + r.length = i + (r.length + 1) by omega]
def knOf (x : Int) : List (Int × Int) → Option Int
 | [] => none
 | y :: r => if x = y.1 then some y.2 else knOf x r
theorem knOf_mem {x y : Int} : ∀ {xs : List (Int × Int)}, knOf x xs = some y → (x, y) ∈ xs
 | z :: r, h => by
  unfold knOf at h
  split at h
  · rename_i e
    simp only [Option.some.injEq] at h
    obtain ⟨z1, z2⟩ := z
    simp only at e h
    subst e h
    simp
  · exact List.mem_cons_of_mem _ (knOf_mem h)
theorem knOf_push {x y : Int} : ∀ {xs : List (Int × Int)}, knOf x xs = none → knOf x (xs ++ [(x, y)]) = some y
 | [], _ => by simp [knOf]
 | z :: r, h => by
  unfold knOf at h
  split at h
  · exact absurd h (by simp)
  · rename_i e
    show (if x = z.1 then some z.2 else knOf x (r ++ [(x, y)])) = some y
    rw [if_neg e]
    exact knOf_push h
theorem findNow_kn (x : Int) : ∀ (xs : List (Int × Int)) (i j : Nat), Instr.findNow (.int .i64) (.int .i64 x) (knEntries i xs) j = some ((knOf x xs).map fun y => (j + xs.findIdx (fun z => z.1 == x), .int .i64 y)) := by
 intro xs
 induction xs with
 | nil => intro i j; simp [knEntries, Instr.findNow, knOf]
 | cons y r ih =>
  intro i j
  simp only [knEntries, Instr.findNow, Instr.sameNow, if_true, knOf]
  by_cases h : x = y.1
  · subst h; simp [List.findIdx_cons]
  · have h1 : (x == y.1) = false := by simpa using h
    have h2 : (y.1 == x) = false := by simpa using Ne.symm h
    simp only [h1, ih (i + 1) (j + 1), h, if_false, List.findIdx_cons, h2, cond_false]
    rw [show j + 1 + r.findIdx (fun z => z.1 == x) = j + (r.findIdx (fun z => z.1 == x) + 1) by omega]
theorem run_findKn (x : Int) (xs : List (Int × Int)) (w : World) : (Instr.findKey 28 (.int .i64 x) (knEntries 0 xs)).run Tryz.prog w = .ok ((knOf x xs).map fun y => (xs.findIdx (fun z => z.1 == x), .int .i64 y)) w := by
 have h := findNow_kn x xs 0 0
 rw [Nat.zero_add] at h
 simp [Instr.findKey, go_sem, h]
theorem kn_check (em : Bool) (x : Int) (w : World) : (Instr.checkKey em 10000 28 (.int .i64 x)).run Tryz.prog w = .ok () w := by
 have h : ∀ d, (Instr.checkKey em (d + 1) 28 (.int .i64 x)).run Tryz.prog w = .ok () w := fun d => by simp [Instr.checkKey, go_sem]
 exact h 9999
theorem run_lookup_kn {mb : Nat} {xs : List (Int × Int)} {c : Nat} (x : Int) (w : World) (hm : w.heap[mb]? = some (.map (knEntries 0 xs).toArray c)) :
    (Instr.lookup 101 (.map (some mb)) (.int .i64 x) false).run Tryz.prog w = .ok (.int .i64 ((knOf x xs).getD 0)) w := by
 have h1 := run_findKn x xs w
 cases hx : knOf x xs with
 | some y =>
  rw [hx] at h1
  simp [Instr.lookup, go_sem, getObj, Sem.run, hm, kn_check, h1]
 | none =>
  rw [hx] at h1
  simp [Instr.lookup, go_sem, getObj, Sem.run, hm, kn_check, h1]
theorem run_lookup_kn2 {mb : Nat} {xs : List (Int × Int)} {c : Nat} (x : Int) (w : World) (hm : w.heap[mb]? = some (.map (knEntries 0 xs).toArray c)) :
    (Instr.lookup 101 (.map (some mb)) (.int .i64 x) true).run Tryz.prog w = .ok (.tuple #[.int .i64 ((knOf x xs).getD 0), .bool (knOf x xs).isSome]) w := by
 have h1 := run_findKn x xs w
 cases hx : knOf x xs with
 | some y =>
  rw [hx] at h1
  simp [Instr.lookup, go_sem, getObj, Sem.run, hm, kn_check, h1]
 | none =>
  rw [hx] at h1
  simp [Instr.lookup, go_sem, getObj, Sem.run, hm, kn_check, h1]
theorem run_update_kn {mb : Nat} {xs : List (Int × Int)} (x y : Int) (w : World) (hm : w.heap[mb]? = some (.map (knEntries 0 xs).toArray xs.length)) (hx : knOf x xs = none) :
    (Instr.mapUpdate 101 (.map (some mb)) (.int .i64 x) (.int .i64 y)).run Tryz.prog w = .ok () (setB w mb (.map (knEntries 0 (xs ++ [(x, y)])).toArray (xs ++ [(x, y)]).length)) := by
 have h1 := run_findKn x xs w
 rw [hx] at h1
 rw [knEntries_push]
 simp [Instr.mapUpdate, go_sem, getObj, setObj, Sem.run, hm, kn_check, h1, setB]
end Go.Proofs.YtgldjpldldknoaaGreatDoor
/- Plain words: how many groups there are. No program. -/
set_option linter.unusedSimpArgs false
set_option linter.unusedVariables false
namespace Go.Proofs.YtgldjpldldknoaaGreatDoor
open Go.RowKit
theorem GrOk.mem {t : List Int} {p q : List PC} {gs : List (Grp PC)} (h : GrOk t p q gs) {g : Grp PC} (hg : g ∈ gs) : (∀ c ∈ g.left, c ∈ p) ∧ (∀ c ∈ g.right, c ∈ q) :=
 ⟨fun c hc => by rw [← h.lefts]; exact List.mem_flatMap.2 ⟨g, hg, hc⟩, fun c hc => by rw [← h.rights]; exact List.mem_flatMap.2 ⟨g, hg, hc⟩⟩
theorem GrOk.ne {t : List Int} {p q : List PC} {gs : List (Grp PC)} (h : GrOk t p q gs) : ∀ g ∈ gs, g.left ≠ [] ∨ g.right ≠ [] := by
 obtain ⟨m, G⟩ := h.gi
 exact G.ne
theorem grp_count : ∀ gs : List (Grp PC), (∀ g ∈ gs, g.left ≠ [] ∨ g.right ≠ []) → gs.length ≤ (gs.flatMap Grp.left).length + (gs.flatMap Grp.right).length
 | [], _ => by simp
 | g :: gs, h => by
  have ih := grp_count gs (fun x hx => h x (by simp [hx]))
  have h1 := h g (by simp)
  rw [List.flatMap_cons, List.flatMap_cons, List.length_append, List.length_append, List.length_cons]
  rcases h1 with h1 | h1
  · have := List.length_pos_iff.2 h1; omega
  · have := List.length_pos_iff.2 h1; omega
theorem GrOk.count {t : List Int} {p q : List PC} {gs : List (Grp PC)} (h : GrOk t p q gs) : gs.length ≤ p.length + q.length := by
 have := grp_count gs h.ne
 rw [h.lefts, h.rights] at this
 exact this
end Go.Proofs.YtgldjpldldknoaaGreatDoor
/- Plain words: the groups of patches that do not touch, and of a patch with itself. No program. -/
set_option linter.unusedSimpArgs false
set_option linter.unusedVariables false
namespace Go.Proofs.YtgldjpldldknoaaGreatDoor
open Go.RowKit
section
variable {α : Type} (a n : α → Int)
theorem new_end (z : α × Bool) : (Grp.new a n z).end_ = a z.1 + n z.1 := by
 show max (a z.1 + n z.1) (a z.1 + n z.1) = _
 omega
theorem stepG_new {gs : List (Grp α)} {z : α × Bool} (h : ∀ g ∈ gs, g.end_ < a z.1) : stepG a n gs z = gs ++ [Grp.new a n z] := by
 unfold stepG
 cases hg : gs.getLast? with
 | none =>
  rw [List.getLast?_eq_none_iff] at hg
  subst hg
  rfl
 | some g =>
  have hm : g ∈ gs := List.mem_of_getLast? hg
  dsimp only
  rw [if_pos (h g hm)]
theorem foldl_new : ∀ (zs : List (α × Bool)) (gs : List (Grp α)), (∀ g ∈ gs, ∀ z ∈ zs, g.end_ < a z.1) → zs.Pairwise (fun x y => a x.1 + n x.1 < a y.1) → zs.foldl (stepG a n) gs = gs ++ zs.map (Grp.new a n)
 | [], gs, _, _ => by simp
 | z :: zs, gs, h, hp => by
  obtain ⟨h1, h2⟩ := List.pairwise_cons.1 hp
  rw [List.foldl_cons, stepG_new a n (fun g hg => h g hg z (by simp)), foldl_new zs _ (fun g hg y hy => ?_) h2, List.map_cons, List.append_assoc]
  · rfl
  · rcases List.mem_append.1 hg with hg | hg
    · exact h g hg y (by simp [hy])
    · rw [List.mem_singleton.1 hg, new_end]
      exact h1 y hy
theorem mrgS_lf (ps : List α) : mrgS a ps [] = ps.map fun y => (y, true) := by
 cases ps with
 | nil => rw [mrgS]; rfl
 | cons x p => rw [mrgS]
theorem mrgS_rg (qs : List α) : mrgS a [] qs = qs.map fun y => (y, false) := by rw [mrgS]
theorem dvdG_left {ps : List α} (hp : ps.Pairwise fun x y => a x + n x < a y) : dvdG a n ps [] = ps.map fun c => Grp.new a n (c, true) := by
 unfold dvdG
 rw [mrgS_lf, foldl_new a n _ [] (fun g hg => by simp at hg) (by rw [List.pairwise_map]; exact hp), List.nil_append, List.map_map]
 rfl
theorem dvdG_right {qs : List α} (hp : qs.Pairwise fun x y => a x + n x < a y) : dvdG a n [] qs = qs.map fun c => Grp.new a n (c, false) := by
 unfold dvdG
 rw [mrgS_rg, foldl_new a n _ [] (fun g hg => by simp at hg) (by rw [List.pairwise_map]; exact hp), List.nil_append, List.map_map]
 rfl
theorem mrgS_apart : ∀ (ps qs : List α), (∀ x ∈ ps, ∀ y ∈ qs, a x ≤ a y) → mrgS a ps qs = (ps.map fun y => (y, true)) ++ qs.map fun y => (y, false)
 | [], qs, _ => by rw [mrgS_rg]; rfl
 | x :: p, [], _ => by rw [mrgS_lf]; simp
 | x :: p, y :: q, h => by
  rw [mrgS, if_pos (h x (by simp) y (by simp)), mrgS_apart p (y :: q) (fun u hu v hv => h u (by simp [hu]) v hv)]
  rfl
theorem dvdG_apart {ps qs : List α} (hp : ps.Pairwise fun x y => a x + n x < a y) (hq : qs.Pairwise fun x y => a x + n x < a y) (hpq : ∀ x ∈ ps, ∀ y ∈ qs, a x + n x < a y) (hn : ∀ x ∈ ps, 0 ≤ n x) :
    dvdG a n ps qs = (ps.map fun c => Grp.new a n (c, true)) ++ qs.map fun c => Grp.new a n (c, false) := by
 unfold dvdG
 rw [mrgS_apart a ps qs (fun x hx y hy => by have := hpq x hx y hy; have := hn x hx; omega), foldl_new a n _ [] (fun g hg => by simp at hg) ?_, List.nil_append, List.map_append, List.map_map, List.map_map]
 · rfl
 · rw [List.pairwise_append]
   refine ⟨by rw [List.pairwise_map]; exact hp, by rw [List.pairwise_map]; exact hq, fun x hx y hy => ?_⟩
   obtain ⟨u, hu, rfl⟩ := List.mem_map.1 hx
   obtain ⟨v, hv, rfl⟩ := List.mem_map.1 hy
   exact hpq u hu v hv
end
theorem mgO_single (t : List Int) : ∀ (hs : List (Grp PC)) (ps : List PC), hs.length = ps.length → (∀ i (h1 : i < hs.length) (h2 : i < ps.length), isC t hs[i] = false ∧ chP t hs[i] = ps[i]) → mgO t hs = ps ∧ mgC t hs = []
 | [], [], _, _ => ⟨rfl, rfl⟩
 | h :: hs, p :: ps, hl, hx => by
  obtain ⟨h1, h2⟩ := hx 0 (by simp) (by simp)
  obtain ⟨i1, i2⟩ := mgO_single t hs ps (by simpa using hl) (fun i a b => by
   have := hx (i + 1) (by simp; omega) (by simp; omega)
   simpa using this)
  simp only [List.getElem_cons_zero] at h1 h2
  constructor
  · unfold mgO at i1 ⊢
    rw [List.filter_cons_of_pos (by simp [h1]), List.map_cons, h2, i1]
  · unfold mgC at i2 ⊢
    rw [List.filter_cons_of_neg (by simp [h1]), i2]
 | [], _ :: _, hl, _ => by simp at hl
 | _ :: _, [], hl, _ => by simp at hl
theorem sdG_one (t : List Int) (c : PC) : sdG t (c.at_ + c.n) c.at_ [c] = c.text := by
 show (t.drop c.at_.toNat).take (c.at_ - c.at_).toNat ++ (c.text ++ (t.drop (c.at_ + c.n).toNat).take (c.at_ + c.n - (c.at_ + c.n)).toNat) = c.text
 rw [show (c.at_ - c.at_).toNat = 0 by omega, show (c.at_ + c.n - (c.at_ + c.n)).toNat = 0 by omega]
 simp
theorem new_left (t : List Int) (c : PC) : isC t (Grp.new PC.at_ PC.n (c, true)) = false ∧ chP t (Grp.new PC.at_ PC.n (c, true)) = c := by
 have e : Grp.new PC.at_ PC.n (c, true) = ⟨c.at_, c.at_ + c.n, [c], []⟩ := by
  show Grp.mk c.at_ (max (c.at_ + c.n) (c.at_ + c.n)) [c] [] = _
  rw [show max (c.at_ + c.n) (c.at_ + c.n) = c.at_ + c.n by omega]
 rw [e]
 refine ⟨by simp [isC], ?_⟩
 unfold chP
 dsimp only
 rw [if_pos (by simp)]
 unfold sdl
 dsimp only
 rw [sdG_one, show c.at_ + c.n - c.at_ = c.n by omega]
theorem new_right (t : List Int) (c : PC) : isC t (Grp.new PC.at_ PC.n (c, false)) = false ∧ chP t (Grp.new PC.at_ PC.n (c, false)) = c := by
 have e : Grp.new PC.at_ PC.n (c, false) = ⟨c.at_, c.at_ + c.n, [], [c]⟩ := by
  show Grp.mk c.at_ (max (c.at_ + c.n) (c.at_ + c.n)) [] [c] = _
  rw [show max (c.at_ + c.n) (c.at_ + c.n) = c.at_ + c.n by omega]
 rw [e]
 refine ⟨by simp [isC], ?_⟩
 unfold chP
 dsimp only
 rw [if_neg (by simp)]
 unfold sdr
 dsimp only
 rw [sdG_one, show c.at_ + c.n - c.at_ = c.n by omega]
end Go.Proofs.YtgldjpldldknoaaGreatDoor
/- The walks of patch.section and patch.Invert's helpers. -/
set_option linter.unusedSimpArgs false
set_option linter.unusedVariables false
namespace Go.Proofs.YtgldjpldldknoaaGreatDoor
open Go.RowKit
theorem sto_size {B : Nat} {w : World} {p mb : Nat} {most : Int} {L : List Ent} (hS : Sto B w p mb most L) (hD : DOk L) (hO : SOk L) {id : Int} {t : List Int} {d : Int} (hb : BalZ L id t d) :
    Calls Tryz.prog 29 #[.pointer (some ⟨p, 0, none⟩), .int .i64 id] w fun e w' => e = .returned (.tuple #[.int .i64 t.length, .nilIface]) ∧ Fr0 w w' := by
 obtain ⟨sv, hS', _⟩ := hS
 have := patch_sizeL hS' id hb.known
 unfold lnL at this
 rw [← hb.len hD hO] at this
 exact this
set_option maxRecDepth 100000 in
set_option maxHeartbeats 1000000 in
theorem pat_section {B : Nat} {w : World} {p mb : Nat} {most : Int} {L : List Ent} {id : Int} {t : List Int} {d f n : Int} (hR : Room B w p mb most L (11 * d.toNat + 1)) (hb : BalZ L id t d) (h0 : 0 ≤ f) (h1 : 0 ≤ n) (h2 : f + n ≤ t.length) :
    Calls Tryz.prog 51 #[.pointer (some ⟨p, 0, none⟩), .int .i64 id, .int .i64 f, .int .i64 n] w (ZPost B w p mb most L (cutL t f n) (fun d' k => k ≤ 11 * d.toNat + 1)) := by
 have CS := Lib.hid (sto_size hR.st hR.dok hR.sok hb)
 have CX := Lib.hid (fun W (hW : Fr0 w W) => spl_Section (hR.kept0 hW) hb h0 h1 h2)
 have HR := Lib.hid hR
 have HB := Lib.hid hb
 clear hR hb
 by_cases hn : n = 0
 · subst hn
   go_enter Tryz.func51, Tryz.ntmps51
   go_wp2_with fail
   refine CS.out.mono ?_
   rintro e w1 ⟨rfl, f1⟩
   go_wp2_with fail
   go_ret2
   exact ZPost.same HR.out f1 (by rw [cut_zero]; exact BalZ.zero L) (by omega)
 · have q1 : (n == 0) = false := by simpa using hn
   by_cases hw : n = t.length
   · have q2 : (n == (t.length : Int)) = true := by simpa using hw
     have HC : Hid (cutL t f n = t) := cut_all (by omega) hw
     clear hn hw
     go_enter Tryz.func51, Tryz.ntmps51
     go_wp2_with fail
     refine CS.out.mono ?_
     rintro e w1 ⟨rfl, f1⟩
     go_wp2_with fail
     go_ret2
     exact ZPost.same HR.out f1 (by rw [HC.out]; exact HB.out) (by omega)
   · have q2 : (n == (t.length : Int)) = false := by simpa using hw
     clear hn hw
     go_enter Tryz.func51, Tryz.ntmps51
     go_wp2_with fail
     refine CS.out.mono ?_
     rintro e w1 ⟨rfl, f1⟩
     go_wp2_with fail
     refine (CX.out _ f1).mono ?_
     rintro e w2 hx
     obtain ⟨z, rfl⟩ := hx.ret
     have HX := Lib.hid (ZPost.before f1 (hx.mono (E := fun d' k => k ≤ 11 * d.toNat + 1) rfl (fun e k h => by have := h.2.2; omega)))
     clear hx CX CS
     go_wp2_with fail
     go_ret2
     exact HX.out
end Go.Proofs.YtgldjpldldknoaaGreatDoor

/- The walks of many and world.valid, and what valid patches are. -/
import Derived.Test.YtbokcmkbnkncoaaOf
import Derived.Laws.Bits128
import Derived.Deep.CutBlock
import Derived.Deep.LoopGhost
import Derived.Deep.CutRange
set_option linter.unusedSimpArgs false
set_option linter.unusedVariables false
namespace Go.Proofs.Ytbokcmkbnkncoaa
open Go.RowKit

def tot : List (List Chg) → Nat
  | [] => 0
  | cs :: r => cs.length + tot r

theorem tot_snoc (pss : List (List Chg)) (cs : List Chg) : tot (pss ++ [cs]) = tot pss + cs.length := by
  induction pss with
  | nil => simp [tot]
  | cons x r ih => simp only [List.cons_append, tot, ih]; omega
theorem tot_split (a b : List (List Chg)) : tot (a ++ b) = tot a + tot b := by
  induction a with
  | nil => simp [tot]
  | cons x r ih => simp only [List.cons_append, tot, ih]; omega
theorem tot_take_le (pss : List (List Chg)) (k : Nat) : tot (pss.take k) ≤ tot pss := by
  have := tot_split (pss.take k) (pss.drop k)
  rw [List.take_append_drop] at this
  omega
theorem tot_mem {pss : List (List Chg)} {cs : List Chg} (h : cs ∈ pss) : cs.length ≤ tot pss := by
  induction pss with
  | nil => cases h
  | cons x r ih =>
    rcases List.mem_cons.1 h with rfl | h
    · simp only [tot]; omega
    · have := ih h; simp only [tot]; omega

set_option maxRecDepth 100000 in
set_option maxHeartbeats 400000 in
theorem law_many {w : World} (a : Option Addr) (cap : Nat) (pss : List (List Chg)) (hp : PsAt w a pss) (ht : pss.length + tot pss ≤ 4611686018427387904) (B : Bool) (hB : B = decide (60 < pss.length + tot pss)) :
    Calls Try.prog 9 #[.slice a pss.length cap] w fun e w' => e = .returned (.bool B) ∧ w = w' := by
  have HP := Lib.hid hp
  have HB := Lib.hid hB
  clear hp hB
  go_enter Try.func9, Try.ntmps9
  go_wp2_with fail
  go_loop [3, 10] (fun n i => ∃ k : Nat, k ≤ pss.length ∧ i = .int .i64 k ∧ n = .int .i64 ((pss.length + tot (pss.take k) : Nat) : Int)) (fun _ i => pss.length - (intOf i).toNat)
  case atStart => exact ⟨0, Nat.zero_le _, rfl, by simp [tot]⟩
  case round =>
    obtain ⟨k, hk, rfl, rfl⟩ := hrel
    by_cases hlt : k < pss.length
    · obtain ⟨b, off, ai, ci, hab, lb, d0, hcs⟩ := HP.out k hlt
      have g1 : tot (pss.take (k + 1)) = tot (pss.take k) + pss[k].length := by rw [List.take_succ_eq_append_getElem hlt, tot_snoc]
      have g2 := tot_take_le pss (k + 1)
      subst hab
      have HG := Lib.hid g1
      have g3 : pss.length + tot (pss.take k) + pss[k].length ≤ 4611686018427387904 := by omega
      clear hcs g1 g2
      generalize tot (pss.take k) = s0 at *
      generalize pss[k].length = l0 at *
      go_wp2_with fail
      go_round
      case rel => exact ⟨k + 1, by omega, by go_num, by rw [HG.out]; go_num⟩
      case measure => simp [intOf]; omega
    · have hke : Hid (pss.take k = pss) := by show _ = _; exact List.take_of_length_le (by omega)
      rw [hke.out]
      clear hke
      have X : Hid (decide ((60 : Int) < ((pss.length + tot pss : Nat) : Int)) = B) := by show _ = _; rw [HB.out]; congr 1; exact propext (by omega)
      generalize pss.length + tot pss = m at *
      go_wp2_with fail
      go_ret
      refine ⟨?_, rfl⟩
      have := X.out
      simp at this ⊢
      exact this

theorem and62 (n : Int) : bits .and .i64 n 4611686018427387903 = n % 4611686018427387904 := by
  have h62 : (BitVec.ofInt 64 4611686018427387903).toNat = 2 ^ 62 - 1 := by decide
  have key : (BitVec.ofInt 64 n &&& BitVec.ofInt 64 4611686018427387903).toNat = (n % ((2 ^ 64 : Nat) : Int)).toNat % 2 ^ 62 := by
    rw [BitVec.toNat_and, BitVec.toNat_ofInt, h62, Nat.and_two_pow_sub_one_eq_mod]
  show IntKind.i64.wrap ((BitVec.ofInt 64 n &&& BitVec.ofInt 64 4611686018427387903).toNat : Nat) = n % 4611686018427387904
  rw [key, IntKind.wrap_i64]
  omega

/-- The end of the last change. -/
def lastEnd (last : Int) (xs : List Chg) : Int := match xs.getLast? with | none => last | some c => c.at_ + c.n

theorem lastEnd_snoc (last : Int) (xs : List Chg) (c : Chg) : lastEnd last (xs ++ [c]) = c.at_ + c.n := by simp [lastEnd]
theorem lastEnd_cons (last : Int) (x : Chg) (xs : List Chg) : lastEnd last (x :: xs) = lastEnd (x.at_ + x.n) xs := by
  cases xs with
  | nil => rfl
  | cons y r => simp only [lastEnd, List.getLast?_cons_cons]; cases h : (y :: r).getLast? with | none => simp at h | some z => rfl

theorem formed_snoc (length : Int) : ∀ (xs : List Chg) (last : Int) (c : Chg), formedFrom length last xs = true → fitB length (lastEnd last xs) c = true → formedFrom length last (xs ++ [c]) = true
  | [], last, c, _, h => by
    show (fitB length last c && formedFrom length (c.at_ + c.n) []) = true
    rw [Bool.and_eq_true]; exact ⟨h, rfl⟩
  | x :: xs, last, c, hf, h => by
    unfold formedFrom at hf
    rw [Bool.and_eq_true] at hf
    rw [List.cons_append]
    unfold formedFrom
    rw [Bool.and_eq_true]
    refine ⟨hf.1, formed_snoc length xs _ c hf.2 ?_⟩
    rw [← lastEnd_cons last]; exact h

/-- Valid patches, and the lengths of the versions. -/
def VOk (L : List Ent) : List (List Chg) → List Int → Prop
  | [], ls => ∃ l, ls = [l] ∧ 0 ≤ l ∧ l ≤ 1152921504606846976
  | cs :: r, ls => ∃ l m, ls = l :: m ∧ 0 ≤ l ∧ l ≤ 1152921504606846976 ∧ patchErr L l cs = 0 ∧ m.head? = some (l - sumN cs + sumT (lnL L) cs) ∧ VOk L r m

theorem VOk.snoc {L : List Ent} (cs : List Chg) (l l' : Int) : ∀ (out : List (List Chg)) (ls : List Int), VOk L out ls → ls.getLast? = some l → patchErr L l cs = 0 → l' = l - sumN cs + sumT (lnL L) cs → 0 ≤ l' → l' ≤ 1152921504606846976 → VOk L (out ++ [cs]) (ls ++ [l'])
  | [], ls, h, h1, h2, h3, h4, h5 => by
    obtain ⟨x, rfl, g1, g2⟩ := h
    simp at h1
    subst h1
    exact ⟨x, [l'], rfl, g1, g2, h2, by simp [h3], l', rfl, h4, h5⟩
  | c :: r, ls, h, h1, h2, h3, h4, h5 => by
    obtain ⟨x, m, rfl, g1, g2, g3, g4, g5⟩ := h
    have hne : m ≠ [] := by rintro rfl; simp at g4
    obtain ⟨y, m', rfl⟩ : ∃ y m', m = y :: m' := by cases m with | nil => exact absurd rfl hne | cons y m' => exact ⟨y, m', rfl⟩
    rw [List.getLast?_cons_cons] at h1
    refine ⟨x, (y :: m') ++ [l'], by simp, g1, g2, g3, by simpa using g4, VOk.snoc cs l l' r (y :: m') g5 h1 h2 h3 h4 h5⟩

theorem VOk.len {L : List Ent} : ∀ (out : List (List Chg)) (ls : List Int), VOk L out ls → ls.length = out.length + 1
  | [], ls, h => by obtain ⟨x, rfl, _⟩ := h; rfl
  | c :: r, ls, h => by
    obtain ⟨x, m, rfl, g1, g2, g3, g4, g5⟩ := h
    simp [VOk.len r m g5]

/-- Changes as cells. -/
def Chg.vals (c : Chg) : List Value := [.int .i64 c.at_, .int .i64 c.n, .int .i64 c.text]
def chgCells (cs : List Chg) : List Value := cs.flatMap Chg.vals

theorem chgsAt_of_owns {w : World} {e : TypeId} {a : Option Addr} {n cap : Nat} {cs : List Chg} (h : w.ownsRow 0 e 3 (.slice a n cap) cs.length (chgCells cs)) : n = cs.length ∧ ChgsAt w a cs := by
  obtain rfl : n = cs.length := by
    rcases h.2 with ⟨h1, h2⟩ | ⟨g, cap', cur, h1, _⟩
    · simp at h1; omega
    · simp at h1; exact h1.2.1
  refine ⟨rfl, ?_⟩
  · intro i hi
    obtain ⟨lb, cap', hsv, _, _⟩ := h.form (by omega)
    simp only [Value.slice.injEq] at hsv
    obtain ⟨rfl, _, _⟩ := hsv
    have hc : ∀ j u, cs[i].vals[j]? = some u → w.cell? ⟨lb, i * 3 + j, none⟩ = some u := by
      intro j u hu
      have hj : j < 3 := by have := (List.getElem?_eq_some_iff.1 hu).1; simpa [Chg.vals] using this
      refine owns_cell h _ _ ?_
      rw [chgCells, flat_get Chg.vals 3 cs (fun _ _ => rfl) i j hj _ (List.getElem?_eq_getElem hi)]
      exact hu
    have d0 := hc 0 _ rfl
    refine ⟨lb, 0, rfl, World.block_lt_of_cell? w _ d0, ?_, ?_, ?_⟩
    · simpa using d0
    · simpa using hc 1 _ rfl
    · simpa using hc 2 _ rfl

/-- Two rows of different types lie apart. -/
theorem owns_apart {w : World} {b b' : Nat} {e e' : TypeId} {s s' n n' : Nat} {v v' : Value} {xs xs' : List Value} (h : w.ownsRow b e s v n xs) (h' : w.ownsRow b' e' s' v' n' xs') (hne : e ≠ e') (k : Nat) (hk : v.ownBlock = some k) : v'.ownBlock ≠ some k := by
  intro h2
  obtain ⟨c1, g1⟩ := owns_block h hk
  obtain ⟨c2, g2⟩ := owns_block h' h2
  exact ne_of_types g1 g2 hne rfl

theorem info_chg : (Try.prog.info? 71).map (fun i => (i.zero, i.size, i.bytes)) = some (some (.agg #[.int .i64 0, .int .i64 0, .int .i64 0]), 3, 24) := by kernel_rfl
theorem info_chgs : (Try.prog.info? 31).map (fun i => (i.zero, i.size, i.bytes)) = some (some (.slice none 0 0), 1, 24) := by kernel_rfl
theorem info_int : (Try.prog.info? 3).map (fun i => (i.zero, i.size, i.bytes)) = some (some (.int .i64 0), 1, 8) := by kernel_rfl

end Go.Proofs.Ytbokcmkbnkncoaa

/- Plain words: the texts of powers, the lengths of all texts, and how deep a balanced text can be. No program. -/
import Derived.Test.YtclpndigmidjkaaGreatQd
import Derived.Deep.LoopGhost
import Derived.Test.YtclpndigmidjkaaGreatQf
import Derived.Test.YtclpndigmidjkaaGreatQDr2
set_option linter.unusedSimpArgs false
set_option linter.unusedVariables false
namespace Go.Proofs.YtclpndigmidjkaaGreat
open Go.RowKit

theorem txt_pow {L : List Ent} (h : DOk L) {id : Int} (hk : isKnown L id) (h0 : id ≠ 0) (h3 : (entAt L id).rule.kind = 3) : txt L id = reps (txt L (entAt L id).rule.left) (entAt L id).rule.times.toNat := by
  obtain ⟨g, hg⟩ : ∃ g : Nat, id.toNat = g + 1 := ⟨id.toNat - 1, by have := hk.1; omega⟩
  rcases h.at id hk h0 with ⟨k1, _⟩ | ⟨k1, k2, _⟩ | ⟨k1, k2, _⟩
  · omega
  · omega
  · unfold txt
    rw [hg]
    simp only [txtF]
    rw [if_neg h0, if_neg (by omega), if_neg (by omega)]
    have hb := hk.2
    rw [txtF_eq h g g _ ⟨by omega, by omega⟩ (by omega) (by omega)]

theorem reps_len (t : List Int) (n : Nat) : (reps t n).length = n * t.length := by
  induction n with
  | zero => simp [reps]
  | succ n ih => simp only [reps, List.length_append, ih, Nat.succ_mul]; omega
theorem reps_succ (t : List Int) (n : Nat) : reps t (n + 1) = t ++ reps t n := rfl
theorem reps_two (t : List Int) : ∀ n : Nat, reps t (2 * n) = reps (t ++ t) n
  | 0 => rfl
  | n + 1 => by
    rw [show 2 * (n + 1) = 2 * n + 1 + 1 by omega, reps_succ, reps_succ, reps_two t n, reps_succ, List.append_assoc]
theorem reps_odd (t : List Int) (n : Nat) : reps t (2 * n + 1) = t ++ reps (t ++ t) n := by rw [reps_succ, reps_two]

/-- The length of the text of any ID. -/
theorem txt_len {L : List Ent} (hd : DOk L) (hs : SOk L) : ∀ (n : Nat) (id : Int), id.toNat ≤ n → isKnown L id → ((txt L id).length : Int) = (entAt L id).wt.len := by
  intro n
  induction n with
  | zero =>
    intro id h hk
    have h0 : id = 0 := by have := hk.1; omega
    subst h0; rfl
  | succ n ih =>
    intro id h hk
    by_cases h0 : id = 0
    · subst h0; rfl
    · have hb := hk.2
      rcases hd.at id hk h0 with ⟨k1, k3⟩ | ⟨k1, k2, k3⟩ | ⟨k1, k2, k3⟩
      · rw [txt_letter hk h0 k1, k3]
        show (1 : Int) = (Wt.letter _).len
        rw [letter_len]
      · have h1 := ih (entAt L id).rule.left (by omega) ⟨by omega, by omega⟩
        have h2 := ih (entAt L id).rule.right (by omega) ⟨by omega, by omega⟩
        rw [txt_pair hd hk h0 k1, List.length_append]
        have e : (entAt L id).wt.len = (entAt L (entAt L id).rule.left).wt.len + (entAt L (entAt L id).rule.right).wt.len := by
          conv => lhs; rw [k3]
          rfl
        omega
      · have h1 := ih (entAt L id).rule.left (by omega) ⟨by omega, by omega⟩
        have e : (entAt L id).wt.len = (entAt L (entAt L id).rule.left).wt.len * (entAt L id).rule.times := by
          conv => lhs; rw [k3]
          rfl
        have p1 := ((hs.at id hk).2.2.2 h0).1
        have p2 := ((hs.at (entAt L id).rule.left ⟨by omega, by omega⟩).2.2.2 (by omega)).1
        have p3 : 0 ≤ (entAt L id).rule.times := by
          refine Classical.byContradiction fun hn => ?_
          have hm := Int.mul_le_mul_of_nonneg_left (show (entAt L id).rule.times ≤ 0 by omega) (show (0 : Int) ≤ (entAt L (entAt L id).rule.left).wt.len by omega)
          rw [← e, Int.mul_zero] at hm
          omega
        rw [txt_pow hd hk h0 k1, reps_len]
        rw [e, ← h1]
        have e2 : (((entAt L id).rule.times.toNat : Nat) : Int) = (entAt L id).rule.times := by omega
        rw [Int.natCast_mul, e2, Int.mul_comm]

/-- The times of a power. -/
theorem pow_times {L : List Ent} (hd : DOk L) (hs : SOk L) {id : Int} (hk : isKnown L id) (h0 : id ≠ 0) (h3 : (entAt L id).rule.kind = 3) : 1 ≤ (entAt L id).rule.times ∧ (entAt L id).rule.times ≤ 1152921504606846976 ∧ 1 ≤ (entAt L id).rule.left ∧ (entAt L id).rule.left < id ∧ txt L (entAt L id).rule.left ≠ [] := by
  have hb := hk.2
  rcases hd.at id hk h0 with ⟨k1, k3⟩ | ⟨k1, k2, k3⟩ | ⟨k1, k2, k3⟩
  · omega
  · omega
  · have e : (entAt L id).wt.len = (entAt L (entAt L id).rule.left).wt.len * (entAt L id).rule.times := by
      conv => lhs; rw [k3]
      rfl
    have p0 := (hs.at id hk).1.len1
    have p1 := ((hs.at id hk).2.2.2 h0).1
    have p2 := ((hs.at (entAt L id).rule.left ⟨by omega, by omega⟩).2.2.2 (by omega)).1
    have hl := txt_len hd hs _ _ (Nat.le_refl _) (show isKnown L (entAt L id).rule.left from ⟨by omega, by omega⟩)
    have p3 : 1 ≤ (entAt L id).rule.times := by
      refine Classical.byContradiction fun hn => ?_
      have hm := Int.mul_le_mul_of_nonneg_left (show (entAt L id).rule.times ≤ 0 by omega) (show (0 : Int) ≤ (entAt L (entAt L id).rule.left).wt.len by omega)
      rw [← e, Int.mul_zero] at hm
      omega
    have p4 : (entAt L id).rule.times ≤ (entAt L id).wt.len := by
      have hm := Int.mul_le_mul_of_nonneg_right p2 (show (0 : Int) ≤ (entAt L id).rule.times by omega)
      rw [← e, Int.one_mul] at hm
      exact hm
    refine ⟨p3, by omega, by omega, by omega, fun e2 => ?_⟩
    rw [e2] at hl
    simp at hl
    omega

theorem lst87 : lst 87 = 1779979416004714189 := by
  have h0 : lst 0 = 1 := rfl
  have h1 : lst 1 = 2 := rfl
  have h2 : lst 2 = 3 := by rw [show lst 2 = lst 1 + lst 0 from rfl, h1, h0]
  have h3 : lst 3 = 5 := by rw [show lst 3 = lst 2 + lst 1 from rfl, h2, h1]
  have h4 : lst 4 = 8 := by rw [show lst 4 = lst 3 + lst 2 from rfl, h3, h2]
  have h5 : lst 5 = 13 := by rw [show lst 5 = lst 4 + lst 3 from rfl, h4, h3]
  have h6 : lst 6 = 21 := by rw [show lst 6 = lst 5 + lst 4 from rfl, h5, h4]
  have h7 : lst 7 = 34 := by rw [show lst 7 = lst 6 + lst 5 from rfl, h6, h5]
  have h8 : lst 8 = 55 := by rw [show lst 8 = lst 7 + lst 6 from rfl, h7, h6]
  have h9 : lst 9 = 89 := by rw [show lst 9 = lst 8 + lst 7 from rfl, h8, h7]
  have h10 : lst 10 = 144 := by rw [show lst 10 = lst 9 + lst 8 from rfl, h9, h8]
  have h11 : lst 11 = 233 := by rw [show lst 11 = lst 10 + lst 9 from rfl, h10, h9]
  have h12 : lst 12 = 377 := by rw [show lst 12 = lst 11 + lst 10 from rfl, h11, h10]
  have h13 : lst 13 = 610 := by rw [show lst 13 = lst 12 + lst 11 from rfl, h12, h11]
  have h14 : lst 14 = 987 := by rw [show lst 14 = lst 13 + lst 12 from rfl, h13, h12]
  have h15 : lst 15 = 1597 := by rw [show lst 15 = lst 14 + lst 13 from rfl, h14, h13]
  have h16 : lst 16 = 2584 := by rw [show lst 16 = lst 15 + lst 14 from rfl, h15, h14]
  have h17 : lst 17 = 4181 := by rw [show lst 17 = lst 16 + lst 15 from rfl, h16, h15]
  have h18 : lst 18 = 6765 := by rw [show lst 18 = lst 17 + lst 16 from rfl, h17, h16]
  have h19 : lst 19 = 10946 := by rw [show lst 19 = lst 18 + lst 17 from rfl, h18, h17]
  have h20 : lst 20 = 17711 := by rw [show lst 20 = lst 19 + lst 18 from rfl, h19, h18]
  have h21 : lst 21 = 28657 := by rw [show lst 21 = lst 20 + lst 19 from rfl, h20, h19]
  have h22 : lst 22 = 46368 := by rw [show lst 22 = lst 21 + lst 20 from rfl, h21, h20]
  have h23 : lst 23 = 75025 := by rw [show lst 23 = lst 22 + lst 21 from rfl, h22, h21]
  have h24 : lst 24 = 121393 := by rw [show lst 24 = lst 23 + lst 22 from rfl, h23, h22]
  have h25 : lst 25 = 196418 := by rw [show lst 25 = lst 24 + lst 23 from rfl, h24, h23]
  have h26 : lst 26 = 317811 := by rw [show lst 26 = lst 25 + lst 24 from rfl, h25, h24]
  have h27 : lst 27 = 514229 := by rw [show lst 27 = lst 26 + lst 25 from rfl, h26, h25]
  have h28 : lst 28 = 832040 := by rw [show lst 28 = lst 27 + lst 26 from rfl, h27, h26]
  have h29 : lst 29 = 1346269 := by rw [show lst 29 = lst 28 + lst 27 from rfl, h28, h27]
  have h30 : lst 30 = 2178309 := by rw [show lst 30 = lst 29 + lst 28 from rfl, h29, h28]
  have h31 : lst 31 = 3524578 := by rw [show lst 31 = lst 30 + lst 29 from rfl, h30, h29]
  have h32 : lst 32 = 5702887 := by rw [show lst 32 = lst 31 + lst 30 from rfl, h31, h30]
  have h33 : lst 33 = 9227465 := by rw [show lst 33 = lst 32 + lst 31 from rfl, h32, h31]
  have h34 : lst 34 = 14930352 := by rw [show lst 34 = lst 33 + lst 32 from rfl, h33, h32]
  have h35 : lst 35 = 24157817 := by rw [show lst 35 = lst 34 + lst 33 from rfl, h34, h33]
  have h36 : lst 36 = 39088169 := by rw [show lst 36 = lst 35 + lst 34 from rfl, h35, h34]
  have h37 : lst 37 = 63245986 := by rw [show lst 37 = lst 36 + lst 35 from rfl, h36, h35]
  have h38 : lst 38 = 102334155 := by rw [show lst 38 = lst 37 + lst 36 from rfl, h37, h36]
  have h39 : lst 39 = 165580141 := by rw [show lst 39 = lst 38 + lst 37 from rfl, h38, h37]
  have h40 : lst 40 = 267914296 := by rw [show lst 40 = lst 39 + lst 38 from rfl, h39, h38]
  have h41 : lst 41 = 433494437 := by rw [show lst 41 = lst 40 + lst 39 from rfl, h40, h39]
  have h42 : lst 42 = 701408733 := by rw [show lst 42 = lst 41 + lst 40 from rfl, h41, h40]
  have h43 : lst 43 = 1134903170 := by rw [show lst 43 = lst 42 + lst 41 from rfl, h42, h41]
  have h44 : lst 44 = 1836311903 := by rw [show lst 44 = lst 43 + lst 42 from rfl, h43, h42]
  have h45 : lst 45 = 2971215073 := by rw [show lst 45 = lst 44 + lst 43 from rfl, h44, h43]
  have h46 : lst 46 = 4807526976 := by rw [show lst 46 = lst 45 + lst 44 from rfl, h45, h44]
  have h47 : lst 47 = 7778742049 := by rw [show lst 47 = lst 46 + lst 45 from rfl, h46, h45]
  have h48 : lst 48 = 12586269025 := by rw [show lst 48 = lst 47 + lst 46 from rfl, h47, h46]
  have h49 : lst 49 = 20365011074 := by rw [show lst 49 = lst 48 + lst 47 from rfl, h48, h47]
  have h50 : lst 50 = 32951280099 := by rw [show lst 50 = lst 49 + lst 48 from rfl, h49, h48]
  have h51 : lst 51 = 53316291173 := by rw [show lst 51 = lst 50 + lst 49 from rfl, h50, h49]
  have h52 : lst 52 = 86267571272 := by rw [show lst 52 = lst 51 + lst 50 from rfl, h51, h50]
  have h53 : lst 53 = 139583862445 := by rw [show lst 53 = lst 52 + lst 51 from rfl, h52, h51]
  have h54 : lst 54 = 225851433717 := by rw [show lst 54 = lst 53 + lst 52 from rfl, h53, h52]
  have h55 : lst 55 = 365435296162 := by rw [show lst 55 = lst 54 + lst 53 from rfl, h54, h53]
  have h56 : lst 56 = 591286729879 := by rw [show lst 56 = lst 55 + lst 54 from rfl, h55, h54]
  have h57 : lst 57 = 956722026041 := by rw [show lst 57 = lst 56 + lst 55 from rfl, h56, h55]
  have h58 : lst 58 = 1548008755920 := by rw [show lst 58 = lst 57 + lst 56 from rfl, h57, h56]
  have h59 : lst 59 = 2504730781961 := by rw [show lst 59 = lst 58 + lst 57 from rfl, h58, h57]
  have h60 : lst 60 = 4052739537881 := by rw [show lst 60 = lst 59 + lst 58 from rfl, h59, h58]
  have h61 : lst 61 = 6557470319842 := by rw [show lst 61 = lst 60 + lst 59 from rfl, h60, h59]
  have h62 : lst 62 = 10610209857723 := by rw [show lst 62 = lst 61 + lst 60 from rfl, h61, h60]
  have h63 : lst 63 = 17167680177565 := by rw [show lst 63 = lst 62 + lst 61 from rfl, h62, h61]
  have h64 : lst 64 = 27777890035288 := by rw [show lst 64 = lst 63 + lst 62 from rfl, h63, h62]
  have h65 : lst 65 = 44945570212853 := by rw [show lst 65 = lst 64 + lst 63 from rfl, h64, h63]
  have h66 : lst 66 = 72723460248141 := by rw [show lst 66 = lst 65 + lst 64 from rfl, h65, h64]
  have h67 : lst 67 = 117669030460994 := by rw [show lst 67 = lst 66 + lst 65 from rfl, h66, h65]
  have h68 : lst 68 = 190392490709135 := by rw [show lst 68 = lst 67 + lst 66 from rfl, h67, h66]
  have h69 : lst 69 = 308061521170129 := by rw [show lst 69 = lst 68 + lst 67 from rfl, h68, h67]
  have h70 : lst 70 = 498454011879264 := by rw [show lst 70 = lst 69 + lst 68 from rfl, h69, h68]
  have h71 : lst 71 = 806515533049393 := by rw [show lst 71 = lst 70 + lst 69 from rfl, h70, h69]
  have h72 : lst 72 = 1304969544928657 := by rw [show lst 72 = lst 71 + lst 70 from rfl, h71, h70]
  have h73 : lst 73 = 2111485077978050 := by rw [show lst 73 = lst 72 + lst 71 from rfl, h72, h71]
  have h74 : lst 74 = 3416454622906707 := by rw [show lst 74 = lst 73 + lst 72 from rfl, h73, h72]
  have h75 : lst 75 = 5527939700884757 := by rw [show lst 75 = lst 74 + lst 73 from rfl, h74, h73]
  have h76 : lst 76 = 8944394323791464 := by rw [show lst 76 = lst 75 + lst 74 from rfl, h75, h74]
  have h77 : lst 77 = 14472334024676221 := by rw [show lst 77 = lst 76 + lst 75 from rfl, h76, h75]
  have h78 : lst 78 = 23416728348467685 := by rw [show lst 78 = lst 77 + lst 76 from rfl, h77, h76]
  have h79 : lst 79 = 37889062373143906 := by rw [show lst 79 = lst 78 + lst 77 from rfl, h78, h77]
  have h80 : lst 80 = 61305790721611591 := by rw [show lst 80 = lst 79 + lst 78 from rfl, h79, h78]
  have h81 : lst 81 = 99194853094755497 := by rw [show lst 81 = lst 80 + lst 79 from rfl, h80, h79]
  have h82 : lst 82 = 160500643816367088 := by rw [show lst 82 = lst 81 + lst 80 from rfl, h81, h80]
  have h83 : lst 83 = 259695496911122585 := by rw [show lst 83 = lst 82 + lst 81 from rfl, h82, h81]
  have h84 : lst 84 = 420196140727489673 := by rw [show lst 84 = lst 83 + lst 82 from rfl, h83, h82]
  have h85 : lst 85 = 679891637638612258 := by rw [show lst 85 = lst 84 + lst 83 from rfl, h84, h83]
  have h86 : lst 86 = 1100087778366101931 := by rw [show lst 86 = lst 85 + lst 84 from rfl, h85, h84]
  have h87 : lst 87 = 1779979416004714189 := by rw [show lst 87 = lst 86 + lst 85 from rfl, h86, h85]
  exact h87

/-- No balanced text is deeper than 86. -/
theorem BalZ.deep86 {L : List Ent} {id : Int} {t : List Int} {d : Int} (h : BalZ L id t d) (hd : DOk L) (hs : SOk L) (hl : (t.length : Int) ≤ 1152921504606846976) : 0 ≤ d ∧ d ≤ 86 := by
  have := h.deep hd hs (D := 86) (by rw [lst87]; omega)
  omega

theorem joinN_le {a b : Int} (h1 : 0 ≤ a) (h2 : a ≤ 86) (h3 : 0 ≤ b) (h4 : b ≤ 86) : joinN a b ≤ 256 := by unfold joinN; omega
theorem joinN_self (a : Int) : joinN a a = 1 := by unfold joinN; omega

end Go.Proofs.YtclpndigmidjkaaGreat

/- The walk of balance.repeat. -/
set_option linter.unusedSimpArgs false
set_option linter.unusedVariables false
namespace Go.Proofs.YtclpndigmidjkaaGreat
open Go.RowKit

/-- The state of repeat's loop: with g rounds left. -/
structure RpR (B : Nat) (w wr : World) (p mb : Nat) (most : Int) (L : List Ent) (goal : List Int) (g : Nat) (id r kk : Int) : Prop where
  ex : ∃ L' T R d dr m, Room B wr p mb most L' (257 * g) ∧ Kp B mb w wr ∧ Grows L L' m ∧ m + 257 * g ≤ 15677 ∧ BalZ L' id T d ∧ BalZ L' r R dr ∧ R ++ reps T kk.toNat = goal
  k1 : 1 ≤ kk
  k2 : kk.toNat < 2 ^ g
  k3 : kk ≤ 1152921504606846976

theorem reps_le (t : List Int) {n : Nat} (h : 1 ≤ n) : t.length ≤ (reps t n).length := by
  rw [reps_len]
  have := Nat.mul_le_mul_right t.length h
  omega
theorem reps_le2 (t : List Int) {n : Nat} (h : 2 ≤ n) : 2 * t.length ≤ (reps t n).length := by
  rw [reps_len]
  exact Nat.mul_le_mul_right t.length h

theorem lt61 {k : Int} (h1 : 1 ≤ k) (h2 : k ≤ 1152921504606846976) : k.toNat < 2 ^ 61 := by
  have : (2 : Nat) ^ 61 = 2305843009213693952 := by decide
  omega

/-- Behind the first join: the end. -/
theorem rep_end {B : Nat} {w wr w1 : World} {p mb : Nat} {most : Int} {L L' L1 : List Ent} {goal T R : List Int} {m n : Nat} {kk id1 d1 : Int} (hK : Kp B mb w wr) (g1 : Grows L L' m) (hS : Sto B w1 p mb most L1) (hK1 : Kp B mb wr w1) (g2 : Grows L' L1 n) (hb : BalZ L1 id1 (R ++ T) d1)
    (he : R ++ reps T kk.toNat = goal) (hk : kk = 1) (hm : m + n ≤ 15677) : ZPost B w p mb most L goal (fun _ k => k ≤ 15677) (.returned (.tuple #[.int .i64 id1, .nilIface])) w1 := by
  subst hk
  have e : R ++ T = goal := by rw [← he]; show R ++ T = R ++ (T ++ []); rw [List.append_nil]
  rw [e] at hb
  exact ⟨L1, id1, d1, m + n, rfl, hS, hK.trans hK1, g1.trans g2 (Nat.le_refl _), hb, hm⟩

set_option maxRecDepth 100000 in
set_option maxHeartbeats 2000000 in
theorem bal_repeat {B : Nat} {w : World} {p mb : Nat} {most : Int} {L : List Ent} {id k : Int} {t : List Int} {d : Int} (hR : Room B w p mb most L 15677) (hb : BalZ L id t d) (h1 : 1 ≤ k) (h2 : k ≤ 1152921504606846976) (hl : ((reps t k.toNat).length : Int) ≤ 1152921504606846976) :
    Calls Tryz.prog 129 #[.pointer (some ⟨p, 0, none⟩), .int .i64 id, .int .i64 k] w (ZPost B w p mb most L (reps t k.toNat) (fun _ k => k ≤ 15677)) := by
  have H0 : Hid (RpR B w w p mb most L (reps t k.toNat) 61 id 0 k) := ⟨⟨L, t, [], d, 0, 0, hR, Kp.refl _ _ _, Grows.refl hR.sok hR.dok, by omega, hb, BalZ.zero L, rfl⟩, h1, lt61 h1 h2, h2⟩
  generalize reps t k.toNat = goal at *
  have HL := Lib.hid hl
  clear hR hb hl
  go_enter Tryz.func129, Tryz.ntmps129
  go_wp2_with fail
  go_loopg [1, 2, 8] 61 (fun gk i kv rv wr => ∃ id r kk : Int, i = .int .i64 id ∧ kv = .int .i64 kk ∧ rv = .int .i64 r ∧ RpR B w wr p mb most L goal gk id r kk)
  case atStart => exact ⟨id, 0, k, rfl, rfl, rfl, H0.out⟩
  case round =>
    clear H0 h1 h2
    obtain ⟨id, r, kk, rfl, rfl, rfl, hr⟩ := hrel
    obtain ⟨⟨L', T, R, d', dr, m, hR, hK, hg, hm, hT, hRR, he⟩, k1, k2, k3⟩ := hr
    obtain ⟨g, rfl⟩ : ∃ g, gk = g + 1 := ⟨gk - 1, by cases gk with | zero => simp at k2; omega | succ g => omega⟩
    have hTl := reps_le T (n := kk.toNat) (by omega)
    have hgl := HL.out
    have hsum : R.length + (reps T kk.toNat).length = goal.length := by rw [← he, List.length_append]
    obtain ⟨a0, a1⟩ := hT.deep86 hR.dok hR.sok (by omega)
    obtain ⟨b0, b1⟩ := hRR.deep86 hR.dok hR.sok (by omega)
    have hj := joinN_le b0 b1 a0 a1
    have hpow : 2 ^ (g + 1) = 2 * 2 ^ g := by rw [Nat.pow_succ]; omega
    have d0 : 0 ≤ kk / 2 := by omega
    have HX2 : Hid (∀ {w1 L1 n1 r1 R1 d1 w2 L2 id2 d2 n2}, Room B w1 p mb most L1 1 → Kp B mb wr w1 → Grows L' L1 n1 → n1 ≤ 256 → BalZ L1 r1 R1 d1 → R1 ++ reps (T ++ T) (kk / 2).toNat = goal → 1 ≤ kk / 2 → Sto B w2 p mb most L2 → Kp B mb w1 w2 → Grows L1 L2 n2 → BalZ L2 id2 (T ++ T) d2 → n2 ≤ 1 → RpR B w w2 p mb most L goal g id2 r1 (kk / 2)) := by
      intro w1 L1 n1 r1 R1 d1 w2 L2 id2 d2 n2 x1 x2 x3 x4 x5 x6 x7 x8 x9 x10 x11 x12
      have y1 := hR.next (k := 257 * g + 1) x1.st x2 x3 (by omega)
      exact ⟨⟨L2, T ++ T, R1, d2, d1, m + n1 + n2, y1.next x8 x9 x10 (by omega), (hK.trans x2).trans x9, (hg.trans x3 (Nat.le_refl _)).trans x10 (Nat.le_refl _), by omega, x11, x10.balz x1.dok x5, x6⟩, x7, by rw [hpow] at k2; omega, by omega⟩
    by_cases hodd : kk % 2 = 1
    · have q1 : (kk % 2 == 1) = true := beq_iff_eq.2 hodd
      have C1 := Lib.hid (avl_Join (hR.less (show joinN dr d' ≤ 257 * (g + 1) by omega)) hRR hT (by omega))
      by_cases hz : kk / 2 = 0
      · have q2 : (kk / 2 == 0) = true := beq_iff_eq.2 hz
        have HK1 : Hid (kk = 1) := by show kk = 1; omega
        have HE := Lib.hid (fun w1 L1 n id1 d1 => @rep_end B w wr w1 p mb most L L' L1 goal T R m n kk id1 d1 hK hg)
        have HEQ := Lib.hid he
        clear he hodd hz hsum hK hg hR hT hRR HX2 hpow k2
        go_wp2_with fail
        refine C1.out.mono ?_
        rintro e w1 ⟨L1, id1, d1, n1, rfl, hS1, hK1, hg1, hb1, hD1⟩
        have HX := Lib.hid (HE.out _ _ _ _ _ hS1 hK1 hg1 hb1 HEQ.out HK1.out (by have := hD1.2; omega))
        clear hS1 hK1 hg1 hb1 hD1
        go_wp2_with fail
        go_ret2
        exact HX.out
      · have q2 : (kk / 2 == 0) = false := beq_eq_false_iff_ne.2 hz
        have HE1 : Hid (1 ≤ kk / 2) := by show _ ≤ _; omega
        have HT2 : Hid (2 * T.length ≤ goal.length) := by show _ ≤ _; have := reps_le2 T (n := kk.toNat) (by omega); omega
        have HEQ : Hid ((R ++ T) ++ reps (T ++ T) (kk / 2).toNat = goal) := by
          show _ = _
          rw [← he, show kk.toNat = 2 * (kk / 2).toNat + 1 by omega, reps_odd, List.append_assoc]
        have HR := Lib.hid hR
        have HT := Lib.hid hT
        clear he hodd hz hsum hK hg hR hT hRR hpow k2
        go_wp2_with fail
        refine C1.out.mono ?_
        rintro e w1 ⟨L1, id1, d1, n1, rfl, hS1, hK1, hg1, hb1, hD1⟩
        have hR1 := HR.out.next (k := 1) hS1 hK1 hg1 (by have := hD1.2; omega)
        have hT1 := hg1.balz HR.out.dok HT.out
        have C2 := Lib.hid (avl_Join (hR1.less (show joinN d' d' ≤ 1 by rw [joinN_self]; omega)) hT1 hT1 (by have := HT2.out; omega))
        have HX3 := Lib.hid (fun w2 L2 id2 d2 n2 => HX2.out (w2 := w2) (L2 := L2) (id2 := id2) (d2 := d2) (n2 := n2) hR1 hK1 hg1 (by have := hD1.2; omega) hb1 HEQ.out HE1.out)
        clear hS1 hK1 hg1 hb1 hD1 hR1 hT1 C1 HX2
        go_wp2_with fail
        refine C2.out.mono ?_
        rintro e w2 ⟨L2, id2, d2, n2, rfl, hS2, hK2, hg2, hb2, hD2⟩
        have HX := Lib.hid (HX3.out _ _ _ _ _ hS2 hK2 hg2 hb2 (by have := hD2.2; rw [joinN_self] at this; exact this))
        clear hS2 hK2 hg2 hb2 hD2 C2 HX3
        go_wp2_with fail
        go_roundg g
        case measure => omega
        case rel => exact ⟨id2, id1, kk / 2, rfl, rfl, rfl, HX.out⟩
    · have q1 : (kk % 2 == 1) = false := beq_eq_false_iff_ne.2 hodd
      have q2 : (kk / 2 == 0) = false := beq_eq_false_iff_ne.2 (by omega)
      have HE1 : Hid (1 ≤ kk / 2) := by show _ ≤ _; omega
      have HT2 : Hid (2 * T.length ≤ goal.length) := by show _ ≤ _; have := reps_le2 T (n := kk.toNat) (by omega); omega
      have HEQ : Hid (R ++ reps (T ++ T) (kk / 2).toNat = goal) := by
        show _ = _
        rw [← he, show kk.toNat = 2 * (kk / 2).toNat by omega, reps_two]
      have hR1 := hR.less (m := 1) (by omega)
      have C2 := Lib.hid (avl_Join (hR1.less (show joinN d' d' ≤ 1 by rw [joinN_self]; omega)) hT hT (by have := HT2.out; omega))
      have HX3 := Lib.hid (fun w2 L2 id2 d2 n2 => HX2.out (w2 := w2) (L2 := L2) (id2 := id2) (d2 := d2) (n2 := n2) hR1 (Kp.refl _ _ _) (Grows.refl hR.sok hR.dok) (by omega) hRR HEQ.out HE1.out)
      clear he hodd hsum hK hg hR hT hRR hpow k2 hR1 HX2
      go_wp2_with fail
      refine C2.out.mono ?_
      rintro e w2 ⟨L2, id2, d2, n2, rfl, hS2, hK2, hg2, hb2, hD2⟩
      have HX := Lib.hid (HX3.out _ _ _ _ _ hS2 hK2 hg2 hb2 (by have := hD2.2; rw [joinN_self] at this; exact this))
      clear hS2 hK2 hg2 hb2 hD2 C2 HX3
      go_wp2_with fail
      go_roundg g
      case measure => omega
      case rel => exact ⟨id2, r, kk / 2, rfl, rfl, rfl, HX.out⟩

end Go.Proofs.YtclpndigmidjkaaGreat

/- The walk of balance.step. -/
set_option linter.unusedSimpArgs false
set_option linter.unusedVariables false
namespace Go.Proofs.YtclpndigmidjkaaGreat
open Go.RowKit

/-- What step leaves. -/
def SpPost (B : Nat) (w : World) (p mb : Nat) (most : Int) (L : List Ent) (t : List Int) : Ending → World → Prop := ZPost B w p mb most L t (fun _ k => k ≤ 15677)

set_option maxRecDepth 100000 in
set_option maxHeartbeats 2000000 in
theorem bal_step_even {B : Nat} {w : World} {p mb : Nat} {most : Int} {L : List Ent} (hR : Room B w p mb most L 15677) {x : Int} (hk : isKnown L x) (he : (entAt L x).even = true) (v : Value) :
    Calls Tryz.prog 104 #[.pointer (some ⟨p, 0, none⟩), .int .i64 x, v] w (SpPost B w p mb most L (txt L x)) := by
  have CB := Lib.hid (sto_Balanced hR.st x hk true he)
  have HX := Lib.hid (fun W (hW : Fr0 w W) => ZPost.same (n := 15677) hR hW (id := x) (t := txt L x) (d := (entAt L x).depth) ⟨hk, rfl, he, rfl⟩ (D := fun _ k => k ≤ 15677) (Nat.zero_le _))
  clear hR hk he
  go_enter Tryz.func104, Tryz.ntmps104
  go_wp2_with fail
  refine CB.out.mono ?_
  rintro e w1 ⟨rfl, hf1⟩
  go_wp2_with fail
  go_ret2
  exact HX.out _ hf1

theorem SpPost.before {B : Nat} {w w1 w' : World} {p mb : Nat} {most : Int} {L : List Ent} {t : List Int} {e : Ending} (h : SpPost B w1 p mb most L t e w') (h0 : Fr0 w w1) : SpPost B w p mb most L t e w' := ZPost.before h0 h
theorem SpPost.ret {B : Nat} {w w' : World} {p mb : Nat} {most : Int} {L : List Ent} {t : List Int} {e : Ending} (h : SpPost B w p mb most L t e w') : ∃ id, e = .returned (.tuple #[.int .i64 id, .nilIface]) := ZPost.ret h

set_option maxRecDepth 100000 in
set_option maxHeartbeats 2000000 in
theorem bal_step_pow {B : Nat} {w : World} {p mb : Nat} {most : Int} {L : List Ent} (hR : Room B w p mb most L 15677) {x : Int} (hk : isKnown L x) (h0 : x ≠ 0) (he : (entAt L x).even = false) (h3 : (entAt L x).rule.kind = 3) {M c : Nat} {ps : List (Int × Int)} (hm : w.heap[M]? = some (.map (ppEntries 0 ps).toArray c)) {d : Int} (hb : BalZ L (valIn ps (entAt L x).rule.left) (txt L (entAt L x).rule.left) d) :
    Calls Tryz.prog 104 #[.pointer (some ⟨p, 0, none⟩), .int .i64 x, .map (some M)] w (SpPost B w p mb most L (txt L x)) := by
  have CB := Lib.hid (sto_Balanced hR.st x hk false he)
  have CR := Lib.hid (fun W (hW : Fr0 w W) => sto_Rule (hR.st.kept0 hW) x hk h0)
  obtain ⟨t1, t2, t3, t4, _⟩ := pow_times hR.dok hR.sok hk h0 h3
  have tl := txt_len hR.dok hR.sok _ x (Nat.le_refl _) hk
  have tm := (hR.sok.at x hk).1.len1
  have tp := txt_pow hR.dok hk h0 h3
  have CP := Lib.hid (fun W (hW : Fr0 w W) => bal_repeat (hR.kept0 hW) hb t1 t2 (by rw [← tp]; omega))
  rw [← tp] at CP
  have HM := Lib.hid hm
  have q1 : ((entAt L x).rule.kind == 3) = true := beq_iff_eq.2 h3
  clear hR hk h0 he h3 hm hb tl tm tp t1 t2 t3 t4
  generalize (entAt L x).rule = R at *
  generalize txt L x = t at *
  go_enter Tryz.func104, Tryz.ntmps104
  go_wp2_with fail
  refine CB.out.mono ?_
  rintro e w1 ⟨rfl, hf1⟩
  go_wp2_with fail
  refine (CR.out _ hf1).mono ?_
  rintro e w2 ⟨rfl, hf2⟩
  have hlk := run_lookup_pp R.left (w2.alloc (.cells #[.int .i64 R.kind, .int .u8 R.letter, .int .i64 R.left, .int .i64 R.right, .int .i64 R.times] 132 (0, 0))) (((hf1.trans hf2).alloc _).kept HM.out)
  have HF := Lib.hid ((hf1.trans hf2).alloc (.cells #[.int .i64 R.kind, .int .u8 R.letter, .int .i64 R.left, .int .i64 R.right, .int .i64 R.times] 132 (0, 0)))
  clear CB CR hf1 hf2
  go_wp2_with fail
  refine (CP.out _ HF.out).mono ?_
  rintro e w3 hz
  obtain ⟨id3, rfl⟩ := ZPost.ret hz
  have HZ : Hid (SpPost B w p mb most L t (.returned (.tuple #[.int .i64 id3, .nilIface])) w3) := Lib.hid (ZPost.before HF.out hz)
  clear hz hlk CP
  go_wp2_with fail
  go_ret2
  exact HZ.out

set_option maxRecDepth 100000 in
set_option maxHeartbeats 2000000 in
theorem bal_step_pair {B : Nat} {w : World} {p mb : Nat} {most : Int} {L : List Ent} (hR : Room B w p mb most L 15677) {x : Int} (hk : isKnown L x) (h0 : x ≠ 0) (he : (entAt L x).even = false) (h2 : (entAt L x).rule.kind = 2) {M c : Nat} {ps : List (Int × Int)} (hm : w.heap[M]? = some (.map (ppEntries 0 ps).toArray c)) {d d' : Int} (hb : BalZ L (valIn ps (entAt L x).rule.left) (txt L (entAt L x).rule.left) d) (hb' : BalZ L (valIn ps (entAt L x).rule.right) (txt L (entAt L x).rule.right) d') :
    Calls Tryz.prog 104 #[.pointer (some ⟨p, 0, none⟩), .int .i64 x, .map (some M)] w (SpPost B w p mb most L (txt L x)) := by
  have CB := Lib.hid (sto_Balanced hR.st x hk false he)
  have CR := Lib.hid (fun W (hW : Fr0 w W) => sto_Rule (hR.st.kept0 hW) x hk h0)
  have tl := txt_len hR.dok hR.sok _ x (Nat.le_refl _) hk
  have tm := (hR.sok.at x hk).1.len1
  have tp := txt_pair hR.dok hk h0 h2
  have tn : ((txt L (entAt L x).rule.left).length : Int) + (txt L (entAt L x).rule.right).length ≤ 1152921504606846976 := by rw [tp, List.length_append] at tl; omega
  obtain ⟨a0, a1⟩ := hb.deep86 hR.dok hR.sok (by omega)
  obtain ⟨b0, b1⟩ := hb'.deep86 hR.dok hR.sok (by omega)
  have hj := joinN_le a0 a1 b0 b1
  have CP := Lib.hid (fun W (hW : Fr0 w W) => (avl_Join ((hR.kept0 hW).less (show joinN d d' ≤ 15677 by omega)) hb hb' tn).mono (fun e w' h => ZPost.mono (E := fun _ k => k ≤ 15677) h tp.symm (fun d k hd => by have := hd.2; omega)))
  have HM := Lib.hid hm
  have q1 : ((entAt L x).rule.kind == 3) = false := beq_eq_false_iff_ne.2 (by omega)
  clear hR hk h0 he h2 hm hb hb' tl tm tp tn a0 a1 b0 b1 hj
  generalize (entAt L x).rule = R at *
  generalize txt L x = t at *
  go_enter Tryz.func104, Tryz.ntmps104
  go_wp2_with fail
  refine CB.out.mono ?_
  rintro e w1 ⟨rfl, hf1⟩
  go_wp2_with fail
  refine (CR.out _ hf1).mono ?_
  rintro e w2 ⟨rfl, hf2⟩
  have hlk := run_lookup_pp R.left (w2.alloc (.cells #[.int .i64 R.kind, .int .u8 R.letter, .int .i64 R.left, .int .i64 R.right, .int .i64 R.times] 132 (0, 0))) (((hf1.trans hf2).alloc _).kept HM.out)
  have hlk2 := run_lookup_pp R.right (w2.alloc (.cells #[.int .i64 R.kind, .int .u8 R.letter, .int .i64 R.left, .int .i64 R.right, .int .i64 R.times] 132 (0, 0))) (((hf1.trans hf2).alloc _).kept HM.out)
  have HF := Lib.hid ((hf1.trans hf2).alloc (.cells #[.int .i64 R.kind, .int .u8 R.letter, .int .i64 R.left, .int .i64 R.right, .int .i64 R.times] 132 (0, 0)))
  clear CB CR hf1 hf2
  go_wp2_with fail
  refine (CP.out _ HF.out).mono ?_
  rintro e w3 hz
  obtain ⟨id3, rfl⟩ := ZPost.ret hz
  have HZ : Hid (SpPost B w p mb most L t (.returned (.tuple #[.int .i64 id3, .nilIface])) w3) := Lib.hid (ZPost.before HF.out hz)
  clear hz hlk hlk2 CP
  go_wp2_with fail
  go_ret2
  exact HZ.out

/-- Step in every case. -/
theorem bal_step {B : Nat} {w : World} {p mb : Nat} {most : Int} {L : List Ent} (hR : Room B w p mb most L 15677) {x : Int} (hk : isKnown L x) (h0 : x ≠ 0) {M c : Nat} {ps : List (Int × Int)} (hm : w.heap[M]? = some (.map (ppEntries 0 ps).toArray c)) (hps : ∀ y ∈ refsR (entAt L x).rule, ∃ d, BalZ L (valIn ps y) (txt L y) d) :
    Calls Tryz.prog 104 #[.pointer (some ⟨p, 0, none⟩), .int .i64 x, .map (some M)] w (SpPost B w p mb most L (txt L x)) := by
  cases he : (entAt L x).even with
  | true => exact bal_step_even hR hk he _
  | false =>
    rcases hR.dok.at x hk h0 with ⟨k1, k3⟩ | ⟨k1, k2, k3⟩ | ⟨k1, k2, k3⟩
    · rw [k3] at he
      cases he
    · obtain ⟨d, hd⟩ := hps (entAt L x).rule.left (by unfold refsR; rw [if_pos k1]; simp)
      obtain ⟨d', hd'⟩ := hps (entAt L x).rule.right (by unfold refsR; rw [if_pos k1]; simp)
      exact bal_step_pair hR hk h0 he k1 hm hd hd'
    · obtain ⟨d, hd⟩ := hps (entAt L x).rule.left (by unfold refsR; rw [if_neg (by omega), if_pos k1]; simp)
      exact bal_step_pow hR hk h0 he k1 hm hd

end Go.Proofs.YtclpndigmidjkaaGreat

/- The walks of collect.known and of collect.Reach's closure. -/
set_option linter.unusedSimpArgs false
set_option linter.unusedVariables false
namespace Go.Proofs.YtclpndigmidjkaaGreat
open Go.RowKit

set_option maxRecDepth 100000 in
set_option maxHeartbeats 400000 in
theorem coll_known {B : Nat} {w : World} {p mb : Nat} {most : Int} {L : List Ent} (hS : Sto B w p mb most L) (id : Int) (hk : isKnown L id) :
    Calls Tryz.prog 125 #[.pointer (some ⟨p, 0, none⟩), .int .i64 id] w fun e w' => e = .returned (.bool true) ∧ w = w' := by
  obtain ⟨sv, hs, _⟩ := hS
  have C1 := Lib.hid (st_Len hs)
  have q0 : decide (0 ≤ id) = true := decide_eq_true hk.1
  have q1 : decide (id ≤ (L.length : Int)) = true := decide_eq_true hk.2
  clear hs hk
  go_enter Tryz.func125, Tryz.ntmps125
  go_wp2_with fail
  refine C1.out.mono ?_
  rintro e w1 ⟨rfl, rfl⟩
  go_wp2_with fail
  go_ret
  exact ⟨rfl, rfl⟩

/-- The closure's variables: the list and the set. -/
structure VS (w0 w : World) (P6 P7 M : Nat) (ids : List Int) : Prop where
  v : ∃ v, OwnI 39 w0 w v ids ∧ w.heap[P6]? = some (.cells #[v] 28 (0, 0))
  b7 : w.heap[P7]? = some (.cells #[.map (some M)] 188 (0, 0))
  mp : w.heap[M]? = some (.map (idEntries 0 (0 :: ids)).toArray (0 :: ids).length)
  n6 : w0.heap.size ≤ P6
  n7 : w0.heap.size ≤ P7
  nM : w0.heap.size ≤ M

theorem VS.kept0 {w0 w w' : World} {P6 P7 M : Nat} {ids : List Int} (h : VS w0 w P6 P7 M ids) (hf : Fr0 w w') : VS w0 w' P6 P7 M ids := by
  obtain ⟨v, h1, h2⟩ := h.v
  exact ⟨⟨v, h1.kept0 hf, hf.kept h2⟩, hf.kept h.b7, hf.kept h.mp, h.n6, h.n7, h.nM⟩
theorem VS.fr {w0 w : World} {P6 P7 M : Nat} {ids : List Int} (h : VS w0 w P6 P7 M ids) : Fr0 w0 w := by
  obtain ⟨v, h1, h2⟩ := h.v
  exact h1.fr

theorem cell1 {w : World} {k : Nat} {u : Value} {T : TypeId} (h : w.heap[k]? = some (.cells #[u] T (0, 0))) : w.cell? ⟨k, 0, none⟩ = some u ∧ w.frozen? ⟨k, 0, none⟩ = false := ⟨by rw [cell_of_block h]; rfl, by simpa using frozen_of_block h 0⟩

set_option maxRecDepth 100000 in
set_option maxHeartbeats 400000 in
theorem visit_old {w0 w : World} {P6 P7 M : Nat} {ids : List Int} (h : VS w0 w P6 P7 M ids) (x : Int) (hx : x ∈ 0 :: ids) :
    Calls Tryz.prog 124 #[.int .i64 x, .pointer (some ⟨P7, 0, none⟩), .pointer (some ⟨P6, 0, none⟩)] w fun e w' => e = .returned (.tuple #[]) ∧ w = w' := by
  have hlk := run_lookup_id x w h.mp
  have hd : decide (x ∈ 0 :: ids) = true := decide_eq_true hx
  rw [hd] at hlk
  obtain ⟨c7, _⟩ := cell1 h.b7
  clear h hx hd
  go_enter Tryz.func124, Tryz.ntmps124
  go_wp2_with fail
  go_end0
  exact ⟨rfl, rfl⟩

/-- A block that is none of the closure's. -/
def Apart (w : World) (P6 b : Nat) : Prop := b < w.heap.size ∧ b ≠ P6 ∧ ∀ v, w.heap[P6]? = some (.cells #[v] 28 (0, 0)) → v.ownBlock ≠ some b

set_option maxRecDepth 100000 in
set_option maxHeartbeats 1000000 in
theorem visit_new {w0 w : World} {P6 P7 M : Nat} {ids : List Int} (h : VS w0 w P6 P7 M ids) (x : Int) (hx : x ∉ 0 :: ids) (hl : ids.length ≤ 1000000) :
    Calls Tryz.prog 124 #[.int .i64 x, .pointer (some ⟨P7, 0, none⟩), .pointer (some ⟨P6, 0, none⟩)] w fun e w' => e = .returned (.tuple #[]) ∧ VS w0 w' P6 P7 M (ids ++ [x]) ∧ ∀ b cs t f, w.heap[b]? = some (.cells cs t f) → Apart w P6 b → w'.heap[b]? = some (.cells cs t f) ∧ Apart w' P6 b := by
  have hlk := run_lookup_id x w h.mp
  have hd : decide (x ∈ 0 :: ids) = false := decide_eq_false hx
  rw [hd] at hlk
  have hup := run_update_id x w h.mp hx
  obtain ⟨v, hv, h6⟩ := h.v
  have h7 := h.b7
  have hm := h.mp
  have lM := lt_of_block hm
  obtain ⟨c7, _⟩ := cell1 h7
  obtain ⟨c6, _⟩ := cell1 h6
  have n6 := h.n6
  have n7 := h.n7
  have nM := h.nM
  have HS : Fr (fun k => k = M) w (setB w M (.map (idEntries 0 (0 :: ids ++ [x])).toArray (0 :: ids ++ [x]).length)) := Fr.setB (Fr.refl _ w) M _ (fun _ => rfl)
  have g6 := HS.kept h6 (fun e => ne_of_map hm h6 e.symm)
  have g7 := HS.kept h7 (fun e => ne_of_map hm h7 e.symm)
  have gM : (setB w M (.map (idEntries 0 (0 :: ids ++ [x])).toArray (0 :: ids ++ [x]).length)).heap[M]? = some (.map (idEntries 0 (0 :: ids ++ [x])).toArray (0 :: ids ++ [x]).length) := setB_same lM
  have hO : OwnI 39 w0 (setB w M (.map (idEntries 0 (0 :: ids ++ [x])).toArray (0 :: ids ++ [x]).length)) v ids := by
    refine ⟨HS.owns hv.row (fun k hk e => ?_), Fr.setB hv.fr M _ (fun hl => by omega)⟩
    obtain ⟨cur, hc⟩ := owns_block hv.row hk
    exact ne_of_map hm hc e.symm
  have HX := Lib.hid (⟨h6, hm, HS⟩ : _ ∧ _ ∧ _)
  have HG7 := Lib.hid g7
  have HG6 := Lib.hid g6
  have HGM := Lib.hid gM
  have HL := Lib.hid (show (ids ++ [x]).length = ids.length + 1 by simp)
  clear h hx hd h6 h7 hm hv HS g7 gM
  have HZ : Hid ((setB w M (.map (idEntries 0 (0 :: ids ++ [x])).toArray (0 :: ids ++ [x]).length)).heap.size = w.heap.size) := Lib.hid setB_size
  generalize hW : setB w M (.map (idEntries 0 (0 :: ids ++ [x])).toArray (0 :: ids ++ [x]).length) = W3 at *
  clear hW
  obtain ⟨d6, f6⟩ := cell1 g6
  have l6 := lt_of_block g6
  clear g6
  go_enter Tryz.func124, Tryz.ntmps124
  go_wp2_with (at_builtin; refine wpList_push rt_id rfl _ _ rfl _ _ rfl hO 39 x 1 _ rfl rfl hl ?_; intro v' w4 hO4 hg4 hat4; obtain ⟨va', vcap', hv'⟩ := hO4.form; rw [HL.out] at hv'; subst hv'; have hF4 : Fr (fun k => v.ownBlock = some k) W3 w4 := Fr.grown ((Fr.refl _ W3).alloc _) hg4 (fun k hk _ => hk); have k6 := hF4.kept HG6.out (fun e => by obtain ⟨cur, hc⟩ := owns_block hO.row e; exact ne_of_types hc HG6.out (by decide) rfl); obtain ⟨y6, z6⟩ := cell1 k6; have K6 := Lib.hid k6; have HO4 := Lib.hid hO4; have HF4 := Lib.hid hF4; have HAT : Hid ((Value.slice va' (ids.length + 1) vcap').ownBlock = v.ownBlock ∨ (Value.slice va' (ids.length + 1) vcap').ownBlock = some (W3.heap.size + 1)) := Lib.hid hat4; clear k6 hO4 hF4 hg4 hat4)
  go_end0
  have h4M := HF4.out.kept HGM.out (fun e => by obtain ⟨cur, hc⟩ := owns_block hO.row e; exact ne_of_map HGM.out hc rfl)
  have h47 := HF4.out.kept HG7.out (fun e => by obtain ⟨cur, hc⟩ := owns_block hO.row e; exact ne_of_types hc HG7.out (by decide) rfl)
  have hS : Fr (fun k => k = P6) w4 (w4.setCell ⟨P6, 0, none⟩ (.slice va' (ids.length + 1) vcap')) := (Fr.refl _ w4).setCell _ _ (fun _ => rfl)
  refine ⟨rfl, ⟨⟨_, ⟨hS.owns HO4.out.row (fun k hk e => ?_), HO4.out.fr.setCell _ _ n6⟩, setCell_block K6.out 0 _⟩, hS.kept h47 ?_, hS.kept h4M ?_, n6, n7, nM⟩, ?_⟩
  · obtain ⟨cur, hc⟩ := owns_block HO4.out.row hk
    exact ne_of_types hc K6.out (by decide) e
  · exact fun e => ne_of_types h47 K6.out (by decide) e
  · exact fun e => ne_of_map h4M K6.out e
  · intro b cs t f hb ⟨a1, a2, a3⟩
    obtain ⟨h6, hm, HS⟩ := HX.out
    have hv := a3 v h6
    have b3 := HS.kept hb (fun e => ne_of_map hm hb e.symm)
    have b4 := HF4.out.kept b3 hv
    have b5 := hS.kept b4 a2
    refine ⟨b5, lt_of_block b5, a2, fun v2 h2 => ?_⟩
    have h3 : (w4.setCell ⟨P6, 0, none⟩ (.slice va' (ids.length + 1) vcap')).heap[P6]? = some (.cells #[.slice va' (ids.length + 1) vcap'] 28 (0, 0)) := setCell_block K6.out 0 _
    rw [h3] at h2
    simp only [Option.some.injEq, Obj.cells.injEq, Array.mk.injEq, List.cons.injEq, and_true] at h2
    rw [← h2]
    intro e
    rcases HAT.out with g | g
    · rw [g] at e; exact hv e
    · rw [g] at e
      have hz := HZ.out
      simp only [Option.some.injEq] at e
      omega

end Go.Proofs.YtclpndigmidjkaaGreat

/- The walk of collect.Reach for one root. -/
set_option linter.unusedSimpArgs false
set_option linter.unusedVariables false
namespace Go.Proofs.YtclpndigmidjkaaGreat
open Go.RowKit

theorem sort_ids2 {w0 w : World} {v : Value} {xs : List Int} (h : OwnI 39 w0 w v xs) (h1 : 1 ≤ xs.length) (h2 : xs.length ≤ 1048576) :
    Calls Tryz.prog 128 #[v] w fun e w' => e = .returned (.tuple #[]) ∧ OwnI 39 w0 w' v (srt xs) ∧ Fr (fun k => v.ownBlock = some k) w w' := by
  rcases h.row.2 with ⟨_, e2⟩ | ⟨g, cap, cur, rfl, hb, hg, k1, k2, k3, k4⟩
  · omega
  · rw [Nat.mul_one] at k4
    refine (Tryz.slices_Sort_ids g 0 cap xs w (holds_of_blockI hg k4) (lt_of_block hg) (by omega)).mono ?_
    rintro e w' ⟨rfl, n, os, rfl⟩
    refine ⟨rfl, ⟨?_, ?_⟩, ?_⟩
    · have := ownsRow_sortedI (w := w) (n := n) (os := os) (ts := srt xs) (srt_len xs) hb hg k1 k2 k3
      rw [srt_len]
      exact this
    · exact Fr.grown h.fr (grownBy_sortedI (srt xs).toArray) (fun k hk hlt => by cases hk; omega)
    · exact Fr.grown (Fr.refl _ w) (grownBy_sortedI (srt xs).toArray) (fun k hk hlt => hk)

/-- What Reach leaves. -/
def CrPost (w : World) (L : List Ent) (id : Int) (e : Ending) (w' : World) : Prop := ∃ out v, e = .returned (.tuple #[v, .nilIface]) ∧ OwnI 39 w w' v out ∧ Outs L id out

theorem refs_rng {L : List Ent} (hD : DOk L) {id z : Int} (hz : 1 ≤ z ∧ z ≤ id) (hk : isKnown L id) : ∀ y ∈ refsR (entAt L z).rule, 1 ≤ y ∧ y ≤ id := by
  intro y hy
  have hk2 := hk.2
  unfold refsR at hy
  rcases hD.at z ⟨by omega, by omega⟩ (by omega) with ⟨g, _⟩ | ⟨g, g2, _⟩ | ⟨g, g2, _⟩
  · simp [g] at hy
  · simp [g] at hy
    rcases hy with rfl | rfl <;> omega
  · simp [g] at hy
    subst hy; omega

/-- The references of the inner loop. -/
structure RfIn (w wx : World) (P6 P7 M : Nat) (js : List Int) (ra : Option Addr) (rs : List Int) : Prop where
  vs : VS w wx P6 P7 M js
  ints : IntsAt wx ra rs
  apart : rs ≠ [] → ∀ ad, ra = some ad → Apart wx P6 ad.block

theorem RfIn.next {w wx w' : World} {P6 P7 M : Nat} {js ks : List Int} {ra : Option Addr} {rs : List Int} (h : RfIn w wx P6 P7 M js ra rs) (hv : VS w w' P6 P7 M ks)
    (hp : ∀ b cs t f, wx.heap[b]? = some (.cells cs t f) → Apart wx P6 b → w'.heap[b]? = some (.cells cs t f) ∧ Apart w' P6 b) : RfIn w w' P6 P7 M ks ra rs := by
  refine ⟨hv, fun i hi => ?_, fun hr ad had => ?_⟩
  · obtain ⟨b, off, cs, t, fr, rfl, h2, h3⟩ := h.ints i hi
    exact ⟨b, off, cs, t, fr, rfl, (hp b cs t fr h2 (h.apart (fun e => by rw [e] at hi; simp at hi) _ rfl)).1, h3⟩
  · obtain ⟨b, off, cs, t, fr, e, h2, h3⟩ := h.ints 0 (List.length_pos_iff.2 hr)
    rw [e] at had
    cases had
    exact (hp b cs t fr h2 (h.apart hr _ e)).2

set_option maxRecDepth 100000 in
set_option maxHeartbeats 2000000 in
theorem coll_Reach {B : Nat} {w : World} {p mb : Nat} {most : Int} {L : List Ent} (hS : Sto B w p mb most L) (hD : DOk L) (hBig : L.length ≤ 1000000) (id : Int) (hk : isKnown L id) (h0 : 1 ≤ id) {rb roff rcap : Nat} (hroot : w.cell? ⟨rb, roff, none⟩ = some (.int .i64 id)) :
    Calls Tryz.prog 103 #[.pointer (some ⟨p, 0, none⟩), .slice (some ⟨rb, roff, none⟩) 1 rcap] w (CrPost w L id) := by
  have hmm := @run_makeMap Tryz.prog
  have lrb := World.block_lt_of_cell? w _ hroot
  have hm0 : ((w.alloc (.cells #[.slice none 0 0] 28 (0, 0))).alloc (.map #[] 0)).heap[w.heap.size + 1]? = some (Obj.map (idEntries 0 []).toArray ([] : List Int).length) := alloc2_1 _ _ _
  have hup := run_update_id (xs := []) 0 _ hm0 (by simp)
  have f0 : Fr0 w (setB ((w.alloc (.cells #[.slice none 0 0] 28 (0, 0))).alloc (.map #[] 0)) (w.heap.size + 1) (.map (idEntries 0 ([] ++ [(0 : Int)])).toArray ([] ++ [(0 : Int)]).length)) := Fr.setB (((Fr0.refl w).alloc _).alloc _) _ _ (fun h => by omega)
  have f1 : (setB ((w.alloc (.cells #[.slice none 0 0] 28 (0, 0))).alloc (.map #[] 0)) (w.heap.size + 1) (.map (idEntries 0 ([] ++ [(0 : Int)])).toArray ([] ++ [(0 : Int)]).length)).heap[w.heap.size]? = some (.cells #[.slice none 0 0] 28 (0, 0)) := by
    rw [setB_other (by omega)]
    exact alloc2_0 _ _ _
  have f2 : (setB ((w.alloc (.cells #[.slice none 0 0] 28 (0, 0))).alloc (.map #[] 0)) (w.heap.size + 1) (.map (idEntries 0 ([] ++ [(0 : Int)])).toArray ([] ++ [(0 : Int)]).length)).heap[w.heap.size + 1]? = some (.map (idEntries 0 (0 :: [])).toArray (0 :: ([] : List Int)).length) := setB_same (by simp)
  generalize setB ((w.alloc (.cells #[.slice none 0 0] 28 (0, 0))).alloc (.map #[] 0)) (w.heap.size + 1) (.map (idEntries 0 ([] ++ [(0 : Int)])).toArray ([] ++ [(0 : Int)]).length) = W1 at *
  have f3 : Fr0 W1 (W1.alloc (.cells #[.map (some (w.heap.size + 1))] 188 (0, 0))) := (Fr0.refl W1).alloc _
  have HV0 : Hid (VS w (W1.alloc (.cells #[.map (some (w.heap.size + 1))] 188 (0, 0))) w.heap.size W1.heap.size (w.heap.size + 1) []) :=
    ⟨⟨.slice none 0 0, OwnI.nil _ (f0.trans f3), f3.kept f1⟩, alloc_at _ _ _ rfl, f3.kept f2, Nat.le_refl _, Fr.size f0, Nat.le_succ _⟩
  have HS := Lib.hid hS
  have HDD := Lib.hid hD
  have HK := Lib.hid hk
  clear hS hD hm0 f0 f1 f2 f3
  go_enter Tryz.func103, Tryz.ntmps103
  go_wp2_with fail
  clear hup hmm
  generalize w.heap.size + 1 = M at *
  generalize W1.heap.size = P7 at *
  obtain ⟨P6, hP6⟩ : ∃ P, w.heap.size = P := ⟨_, rfl⟩
  rw [hP6] at HV0 ⊢
  clear hP6
  go_loopw [24] (fun i wr => ∃ k : Nat, k ≤ 1 ∧ i = .int .i64 k ∧ VS w wr P6 P7 M (if k = 0 then [] else [id])) (fun i _ => 1 - (intOf i).toNat)
  case atStart => exact ⟨0, by omega, rfl, HV0.out⟩
  case round =>
    clear HV0
    obtain ⟨k, hk1, rfl, hv⟩ := hrel
    by_cases hlt : k < 1
    · obtain rfl : k = 0 := by omega
      have hf := hv.fr
      have CK := Lib.hid (coll_known (HS.out.kept0 hf) id HK.out)
      have c0 := (hf.cell rb roff lrb).trans hroot
      have CV := Lib.hid (visit_new hv id (by simp; omega) (by simp))
      clear hv hf
      go_wp2_with fail
      refine CK.out.mono ?_
      rintro e w2 ⟨rfl, rfl⟩
      go_wp2_with fail
      (with_reducible refine CV.out.mono ?_)
      rintro e w3 ⟨rfl, hv3, _⟩
      go_wp2_with fail
      go_roundw
      case rel => exact ⟨1, by omega, rfl, by simpa using hv3⟩
      case measure => simp [intOf]
    · obtain rfl : k = 1 := by omega
      have HV1 : Hid (VS w wr P6 P7 M [id]) := Lib.hid hv
      clear hv hlt hk1
      go_wp2_with fail
      go_loopg [11] (id.toNat + 1) (fun gk i wx => ∃ (k : Nat) (ids : List Int), k + gk = id.toNat + 1 ∧ k ≤ ids.length ∧ i = .int .i64 k ∧ VS w wx P6 P7 M ids ∧ Clo L id ids k)
      case atStart => exact ⟨0, [id], by omega, by omega, rfl, HV1.out, Clo.start L h0⟩
      case round =>
        clear HV1
        obtain ⟨k, ids, hgk, hkl, rfl, hv, hc⟩ := hrel
        have hlen := hc.len
        have hkL := hk.2
        have HC := Lib.hid hc
        have HV := Lib.hid hv
        obtain ⟨v, hov, h6⟩ := hv.v
        obtain ⟨va, vcap, rfl⟩ := hov.form
        obtain ⟨c6, _⟩ := cell1 h6
        by_cases hlt : k < ids.length
        · obtain ⟨ga, gcap, hgv, hI⟩ := ints_of_own hov.row (by decide) (by decide)
          cases hgv
          obtain ⟨b, off, rfl, lb, hcell⟩ := hI.cell k hlt
          obtain ⟨z, hz⟩ : ∃ z, ids[k] = z := ⟨_, rfl⟩
          have hrng := hc.rng ids[k] (List.getElem_mem _)
          rw [hz] at hcell hrng
          have CRU := Lib.hid (sto_Rule (HS.out.kept0 hv.fr) z ⟨by omega, by omega⟩ (by omega))
          have HRB := Lib.hid (refs_rng HDD.out hrng HK.out)
          have HNX : Hid (∃ h : k < ids.length, ids[k] = z) := ⟨hlt, hz⟩
          have HRS := Lib.hid (show refsR (entAt L z).rule = refsR (entAt L z).rule from rfl)
          have hrl := refsR_len (entAt L z).rule
          have hIb : ids.length ≤ 1000000 := by omega
          have q5 : (0 : Int) ≤ (k : Int) := by omega
          have q6 : (k : Int) < (ids.length : Int) := by omega
          have l6 := lt_of_block h6
          have lv : Hid (∀ j, (Value.slice (some ⟨b, off, none⟩) ids.length vcap).ownBlock = some j → j < wr.heap.size) := Lib.hid (fun j hj => (hov.row.lt j hj).2)
          have H6 := Lib.hid h6
          clear hI hov hv hc h6 hz
          have HEN := Lib.hid (show entAt L z = entAt L z from rfl)
          have CRF := Lib.hid (fun W => rule_Refs (entAt L z).rule.kind (entAt L z).rule.letter (entAt L z).rule.left (entAt L z).rule.right (entAt L z).rule.times W)
          go_wp2_with fail
          refine CRU.out.mono ?_
          rintro e w2 ⟨rfl, hf2⟩
          clear CRU
          go_wp2_with fail
          refine (CRF.out _).mono ?_
          rintro e w3 ⟨ra, rcap3, rfl, hI3, hf3, hnew3⟩
          have hX : Fr0 wr w3 := hf2.trans (((Fr0.refl w2).alloc _).trans hf3)
          have hR3 : RfIn w w3 P6 P7 M ids ra (refsR (entAt L z).rule) := by
            refine ⟨HV.out.kept0 hX, hI3, fun _ ad had => ?_⟩
            obtain ⟨n1, n2⟩ := hnew3 ad had
            have n3 := Fr.size hf2
            have n4 : wr.heap.size ≤ ad.block := by simp at n1; omega
            refine ⟨n2, by omega, fun v2 hv2 e => ?_⟩
            rw [hX.kept H6.out] at hv2
            simp only [Option.some.injEq, Obj.cells.injEq, Array.mk.injEq, List.cons.injEq, and_true] at hv2
            rw [← hv2] at e
            have := lv.out _ e
            omega
          have HR3 := Lib.hid hR3
          have HC0 : Hid (CloIn L id ids k (refsR (entAt L z).rule) 0) := ⟨HC.out, fun y hy => by simp at hy⟩
          clear hI3 hf3 hnew3 hX hR3 hf2 CRF HEN c6 hcell
          generalize hrs : refsR (entAt L z).rule = rs at *
          have HRS2 := Lib.hid hrs
          clear hrs
          go_wp2_with fail
          go_loopw [58] (fun i wx => ∃ (m : Nat) (js : List Int), m ≤ rs.length ∧ i = .int .i64 m ∧ RfIn w wx P6 P7 M js ra rs ∧ CloIn L id js k rs m ∧ ∃ h : k < js.length, js[k] = z) (fun i _ => rs.length - (intOf i).toNat)
          case atStart => exact ⟨0, ids, Nat.zero_le _, rfl, HR3.out, HC0.out, HNX.out⟩
          case round =>
            clear HR3 HC0
            obtain ⟨m, js, hm, rfl, hr4, hc4, hjk⟩ := hrel
            by_cases hlt2 : m < rs.length
            · obtain ⟨rb4, roff4, rfl, lrb4, hcel⟩ := hr4.ints.cell m hlt2
              have hlen4 := hc4.clo.len
              have hjl : js.length ≤ 1000000 := by omega
              have hy := HRB.out rs[m] (List.getElem_mem _)
              have HJK := Lib.hid hjk
              have HR4 := Lib.hid hr4
              have HS1 := Lib.hid (hc4.skip hlt2)
              have HS2 := Lib.hid (fun h => hc4.add (by obtain ⟨h, _⟩ := HJK.out; exact h) (by obtain ⟨_, e⟩ := HJK.out; rw [e]; exact HRS2.out) hlt2 h hy)
              have q7 : (0 : Int) ≤ (m : Int) := by omega
              have q8 : (m : Int) < (rs.length : Int) := by omega
              clear hc4 hjk hr4
              generalize rs[m] = y at *
              by_cases hx : y ∈ js
              · have CO := Lib.hid (visit_old HR4.out.vs y (List.mem_cons_of_mem _ hx))
                have HX := Lib.hid hx
                clear hx hy
                go_wp2_with fail
                (with_reducible refine CO.out.mono ?_)
                rintro e w5 ⟨rfl, rfl⟩
                go_wp2_with fail
                go_roundw
                case rel => exact ⟨m + 1, js, by omega, by go_num, HR4.out, HS1.out HX.out, HJK.out⟩
                case measure => simp [intOf]; omega
              · have CO := Lib.hid (visit_new HR4.out.vs y (by simp only [List.mem_cons, not_or]; exact ⟨by omega, hx⟩) hjl)
                have HX := Lib.hid hx
                clear hx hy
                go_wp2_with fail
                (with_reducible refine CO.out.mono ?_)
                rintro e w5 ⟨rfl, hv5, hp5⟩
                have HV5 := Lib.hid hv5
                have HP5 := Lib.hid hp5
                clear hv5 hp5
                go_wp2_with fail
                go_roundw
                case rel => exact ⟨m + 1, js ++ [y], by omega, by go_num, HR4.out.next HV5.out HP5.out, HS2.out HX.out, by obtain ⟨h, e⟩ := HJK.out; exact ⟨by simp; omega, by rw [List.getElem_append_left h]; exact e⟩⟩
                case measure => simp [intOf]; omega
            · obtain ⟨hjl, hjk⟩ := hjk
              have hnx := hc4.next hjl (by rw [hjk]; exact HRS2.out) (by omega)
              have HR4 := Lib.hid hr4.vs
              have HC4 := Lib.hid hnx
              have q8 : decide ((m : Int) < (rs.length : Int)) = false := decide_eq_false (by omega)
              clear hr4 hc4 hnx hjk
              go_wp2_with fail
              go_roundg (gk - 1)
              case measure => omega
              case rel => exact ⟨k + 1, js, by omega, by omega, by go_num, HR4.out, HC4.out⟩
        · have hke : k = ids.length := by omega
          have hpos := List.length_pos_of_mem hc.mem
          have CS := Lib.hid (sort_ids2 hov hpos (by omega))
          rw [hke] at hc
          have HOut := Lib.hid (hc.outs (srt_perm ids) (srt_le ids))
          have H6 := Lib.hid h6
          have HOV := Lib.hid hov
          have q8 : decide ((k : Int) < (ids.length : Int)) = false := decide_eq_false (by omega)
          clear hov hv hc h6 hke
          go_wp2_with fail
          refine CS.out.mono ?_
          rintro e w4 ⟨rfl, hO4, hF4⟩
          obtain ⟨c64, _⟩ := cell1 (hF4.kept H6.out (fun e => by obtain ⟨cur, hc⟩ := owns_block HOV.out.row e; exact ne_of_types hc H6.out (by decide) rfl))
          have HO4 := Lib.hid hO4
          clear hO4 hF4
          go_wp2_with fail
          go_ret2
          exact ⟨srt ids, _, rfl, HO4.out, HOut.out⟩

end Go.Proofs.YtclpndigmidjkaaGreat

/- The walk of balance.Of. -/
set_option linter.unusedSimpArgs false
set_option linter.unusedVariables false
namespace Go.Proofs.YtclpndigmidjkaaGreat
open Go.RowKit

theorem Sto.setM {B : Nat} {w : World} {p mb : Nat} {most : Int} {L : List Ent} (hS : Sto B w p mb most L) {M c : Nat} {es : Array MapEntry} (hm : w.heap[M]? = some (.map es c)) (hM : M ≠ mb) (o : Obj) : Sto B (setB w M o) p mb most L := by
  obtain ⟨sv, hS, q⟩ := hS
  refine ⟨sv, hS.kept (S := fun k => k = M) (Fr.setB (Fr.refl _ w) M o (fun _ => rfl)) (fun e => ?_) (fun e => hM e.symm) (fun k hk e => ?_), q⟩
  · subst e; exact ne_of_map hm hS.ptr rfl
  · subst e
    obtain ⟨cur, hc⟩ := owns_block hS.own hk
    exact ne_of_map hm hc rfl
theorem Kp.setB {B mb : Nat} {w wr : World} (h : Kp B mb w wr) (M : Nat) (o : Obj) (hM : w.heap.size ≤ M) : Kp B mb w (setB wr M o) := by
  refine ⟨h.os, h.tape, h.output, by rw [setB_size]; exact h.size, fun k h1 h2 => ?_, fun k cs t f h1 h2 h3 => ?_, fun k es n h1 h2 => ?_⟩
  · rw [setB_other (by omega)]; exact h.low k h1 h2
  · have := lt_of_block h1
    rw [setB_other (by omega)]; exact h.cells k cs t f h1 h2 h3
  · have := lt_of_block h1
    rw [setB_other (by omega)]; exact h.maps k es n h1 h2

theorem valIn_mem {y : Int} : ∀ {ps : List (Int × Int)}, (∃ q ∈ ps, q.1 = y) → (y, valIn ps y) ∈ ps
  | [], h => by obtain ⟨q, hq, _⟩ := h; simp at hq
  | k :: r, h => by
    by_cases e : y = k.1
    · rw [valIn, if_pos e]
      subst e
      exact List.mem_cons_self
    · rw [valIn, if_neg e]
      obtain ⟨q, hq, hy⟩ := h
      rcases List.mem_cons.1 hq with rfl | hq
      · exact absurd hy.symm e
      · exact List.mem_cons_of_mem _ (valIn_mem ⟨q, hq, hy⟩)

/-- The state of the loop of Of. -/
structure OfR (B : Nat) (w wr : World) (p mb : Nat) (most : Int) (L : List Ent) (M : Nat) (oa : Option Addr) (out : List Int) (k : Nat) (ps : List (Int × Int)) : Prop where
  ex : ∃ L' m, Room B wr p mb most L' (15677 * (out.length - k)) ∧ Kp B mb w wr ∧ Grows L L' m ∧ m + 15677 * (out.length - k) ≤ 15677 * out.length ∧ ∀ q ∈ ps, isKnown L q.1 ∧ ∃ d, BalZ L' q.2 (txt L q.1) d
  keys : ps.map (·.1) = out.take k
  mp : wr.heap[M]? = some (.map (ppEntries 0 ps).toArray ps.length)
  ints : IntsAt wr oa out
  nM : w.heap.size ≤ M
  ne : M ≠ mb

theorem OfR.has {B : Nat} {w wr : World} {p mb : Nat} {most : Int} {L : List Ent} {M : Nat} {oa : Option Addr} {out : List Int} {k : Nat} {ps : List (Int × Int)} (h : OfR B w wr p mb most L M oa out k ps) {y : Int} (hy : y ∈ out.take k) : (y, valIn ps y) ∈ ps := by
  rw [← h.keys] at hy
  obtain ⟨q, hq, e⟩ := List.mem_map.1 hy
  exact valIn_mem ⟨q, hq, e⟩
theorem OfR.fresh {B : Nat} {w wr : World} {p mb : Nat} {most : Int} {L : List Ent} {M : Nat} {oa : Option Addr} {out : List Int} {k : Nat} {ps : List (Int × Int)} (h : OfR B w wr p mb most L M oa out k ps) (hs : out.Pairwise (· < ·)) (hk : k < out.length) : ∀ q ∈ ps, q.1 ≠ out[k] := by
  intro q hq e
  have hm : q.1 ∈ out.take k := by rw [← h.keys]; exact List.mem_map_of_mem hq
  rw [e] at hm
  obtain ⟨j, hj, he⟩ := List.mem_iff_getElem.1 hm
  rw [List.length_take] at hj
  have := List.pairwise_iff_getElem.1 hs j k (by omega) hk (by omega)
  rw [List.getElem_take] at he
  omega

/-- What step needs in a round. -/
theorem OfR.pre {B : Nat} {w wr : World} {p mb : Nat} {most : Int} {L : List Ent} (hD : DOk L) {M : Nat} {oa : Option Addr} {out : List Int} {k : Nat} {ps : List (Int × Int)} (h : OfR B w wr p mb most L M oa out k ps) {id : Int} (hk : isKnown L id) (ho : Outs L id out) (hlt : k < out.length) :
    ∃ L' m, Room B wr p mb most L' (15677 * (out.length - k)) ∧ Kp B mb w wr ∧ Grows L L' m ∧ m + 15677 * (out.length - k) ≤ 15677 * out.length ∧ isKnown L' out[k] ∧ out[k] ≠ 0 ∧ txt L' out[k] = txt L out[k] ∧ (∀ y ∈ refsR (entAt L' out[k]).rule, ∃ d, BalZ L' (valIn ps y) (txt L' y) d) ∧ ∀ q ∈ ps, isKnown L q.1 ∧ ∃ d, BalZ L' q.2 (txt L q.1) d := by
  obtain ⟨L', m, h1, h2, h3, h4, h5⟩ := h.ex
  have hr := ho.rng out[k] (List.getElem_mem hlt)
  have hk2 := hk.2
  have hkn : isKnown L out[k] := ⟨by omega, by omega⟩
  obtain ⟨X, hX⟩ := h3.ext
  subst hX
  refine ⟨L ++ X, m, h1, h2, h3, h4, isKnown_append X hkn, by omega, txt_append hD X hkn, fun y hy => ?_, h5⟩
  rw [entAt_append L X _ hkn] at hy
  have hyo := ho.closed _ (List.getElem_mem hlt) y hy
  have hyl : y < out[k] := by
    unfold refsR at hy
    rcases hD.at out[k] hkn (by omega) with ⟨g, _⟩ | ⟨g, g2, _⟩ | ⟨g, g2, _⟩
    · simp [g] at hy
    · simp [g] at hy
      rcases hy with rfl | rfl <;> omega
    · simp [g] at hy
      subst hy; omega
  obtain ⟨q1, d, q2⟩ := h5 _ (h.has (before_mem ho.sorted hlt hyo hyl))
  exact ⟨d, by rw [txt_append hD X q1]; exact q2⟩

theorem OfR.next {B : Nat} {w wr w2 : World} {p mb : Nat} {most : Int} {L L' L2 : List Ent} (hD : DOk L) {M : Nat} {oa : Option Addr} {out : List Int} {k m n : Nat} {ps : List (Int × Int)} (h : OfR B w wr p mb most L M oa out k ps) {id : Int} (hk : isKnown L id) (ho : Outs L id out) (hlt : k < out.length)
    (hR : Room B wr p mb most L' (15677 * (out.length - k))) (hK : Kp B mb w wr) (hg : Grows L L' m) (hm : m + 15677 * (out.length - k) ≤ 15677 * out.length) (h5 : ∀ q ∈ ps, isKnown L q.1 ∧ ∃ d, BalZ L' q.2 (txt L q.1) d)
    (hS2 : Sto B w2 p mb most L2) (hK2 : Kp B mb wr w2) (hg2 : Grows L' L2 n) {y d : Int} (hb : BalZ L2 y (txt L out[k]) d) (hn : n ≤ 15677) :
    OfR B w (setB w2 M (.map (ppEntries 0 (ps ++ [(out[k], y)])).toArray (ps ++ [(out[k], y)]).length)) p mb most L M oa out (k + 1) (ps ++ [(out[k], y)]) := by
  have hmp := hK2.maps M _ _ h.mp h.ne
  have hr := ho.rng out[k] (List.getElem_mem hlt)
  have hk2 := hk.2
  have hR2 := hR.next (k := 15677 * (out.length - (k + 1))) hS2 hK2 hg2 (by omega)
  refine ⟨⟨L2, m + n, ⟨hR2.st.setM hmp h.ne _, by rw [setB_size]; exact hR2.base, hR2.sok, hR2.dok, hR2.most, hR2.big⟩, (hK.trans hK2).setB M _ h.nM, hg.trans hg2 (Nat.le_refl _), by omega, fun q hq => ?_⟩, ?_, setB_same (lt_of_block hmp), fun i hi => ?_, h.nM, h.ne⟩
  · rcases List.mem_append.1 hq with hq | hq
    · obtain ⟨q1, d2, q2⟩ := h5 q hq
      exact ⟨q1, d2, hg2.balz hR.dok q2⟩
    · simp at hq
      subst hq
      exact ⟨⟨by show 0 ≤ out[k]; omega, by show out[k] ≤ _; omega⟩, d, hb⟩
  · rw [List.map_append, h.keys, List.take_succ_eq_append_getElem hlt]; rfl
  · obtain ⟨b, off, cs, t, fr, h1, h2, h3, h4, h5⟩ := h.ints i hi
    have h6 := hK2.cells b cs t fr h2 h3 h4
    refine ⟨b, off, cs, t, fr, h1, ?_, h3, h4, h5⟩
    rw [setB_other (fun e => ne_of_map hmp h6 e.symm)]
    exact h6

set_option maxRecDepth 100000 in
set_option maxHeartbeats 400000 in
theorem bal_Of_even' {B : Nat} {w : World} {p mb : Nat} {most : Int} {L : List Ent} (hS : Sto B w p mb most L) (id : Int) (h : isKnown L id) (he : (entAt L id).even = true) :
    Calls Tryz.prog 70 #[.pointer (some ⟨p, 0, none⟩), .int .i64 id] w fun e w' => e = .returned (.tuple #[.int .i64 id, .nilIface]) ∧ Fr0 w w' := by
  have C1 := Lib.hid (sto_Balanced hS id h true he)
  clear hS h he
  go_enter Tryz.func70, Tryz.ntmps70
  go_wp2_with fail
  refine C1.out.mono ?_
  rintro e w1 ⟨rfl, f1⟩
  go_wp2_with fail
  go_ret2
  exact ⟨rfl, f1⟩

set_option maxRecDepth 100000 in
set_option maxHeartbeats 2000000 in
theorem bal_Of_odd {B : Nat} {w : World} {p mb : Nat} {most : Int} {L : List Ent} {id : Int} (hR : Room B w p mb most L (15677 * id.toNat)) (hBig : L.length ≤ 1000000) (hk : isKnown L id) (he : (entAt L id).even = false) :
    Calls Tryz.prog 70 #[.pointer (some ⟨p, 0, none⟩), .int .i64 id] w (ZPost B w p mb most L (txt L id) (fun _ k => k ≤ 15677 * id.toNat)) := by
  have h0 : 1 ≤ id := by
    have := hk.1
    by_cases e : id = 0
    · subst e; cases he
    · omega
  have CB := Lib.hid (sto_Balanced hR.st id hk false he)
  have CR := Lib.hid (fun W rb (hW : Fr0 w W) hr => coll_Reach (rcap := 1) (hR.st.kept0 hW) hR.dok hBig id hk h0 (rb := rb) (roff := 0) hr)
  have HR := Lib.hid hR
  have HK := Lib.hid hk
  have hmb : mb < w.heap.size := by
    obtain ⟨sv, hs, _⟩ := hR.st
    exact lt_of_block hs.mp
  clear hR hk he
  go_enter Tryz.func70, Tryz.ntmps70
  go_wp2_with fail
  refine CB.out.mono ?_
  rintro e w1 ⟨rfl, hf1⟩
  go_wp2_with fail
  have hroot : (w1.alloc (.cells #[.int .i64 id] 39 (0, 0))).cell? ⟨w1.heap.size, 0, none⟩ = some (.int .i64 id) := by rw [cell_of_block (alloc_at _ _ _ rfl)]; rfl
  refine (CR.out _ _ (hf1.alloc _) hroot).mono ?_
  rintro e w2 ⟨out, v, rfl, hO, hOut⟩
  obtain ⟨oa, ocap, rfl, hI⟩ := ints_of_own hO.row (by decide) (by decide)
  have hol : out.length ≤ id.toNat := nodup_le id.toNat out hOut.nodup (fun x hx => by have := hOut.rng x hx; omega)
  have hF2 : Fr0 w w2 := (hf1.alloc _).trans hO.fr
  have H0 : Hid (OfR B w (w2.alloc (.map #[] 0)) p mb most L w2.heap.size oa out 0 []) := by
    refine ⟨⟨L, 0, (HR.out.kept0 (hF2.alloc _)).less (by omega), Kp.of0 (hF2.alloc _), Grows.refl HR.out.sok HR.out.dok, by omega, fun q hq => by simp at hq⟩, rfl, alloc_at _ _ _ rfl, hI.kept0 ((Fr0.refl w2).alloc _), Fr.size hF2, ?_⟩
    have := Fr.size hF2
    omega
  have HOut := Lib.hid hOut
  have hkL := HK.out.2
  have hob : out.length ≤ 1000000 := by omega
  clear hO hI hF2 CR CB hf1 hroot hOut
  go_wp2_with fail
  generalize w2.heap.size = M at *
  go_loopw [38] (fun i wr => ∃ (k : Nat) (ps : List (Int × Int)), k ≤ out.length ∧ i = .int .i64 k ∧ OfR B w wr p mb most L M oa out k ps) (fun i _ => out.length - (intOf i).toNat)
  case atStart => exact ⟨0, [], Nat.zero_le _, rfl, H0.out⟩
  case round =>
    clear H0
    obtain ⟨k, ps, hk, rfl, hr⟩ := hrel
    have HRR := Lib.hid hr
    by_cases hlt : k < out.length
    · obtain ⟨b, off, rfl, lb, hcell⟩ := hr.ints.cell k hlt
      obtain ⟨L', m, hR1, hK1, hg1, hm1, hkn, hne, htx, hps, hvs⟩ := hr.pre HR.out.dok HK.out HOut.out hlt
      have CS := Lib.hid (bal_step (hR1.less (m := 15677) (by omega)) hkn hne hr.mp hps)
      have HFX := Lib.hid (hr.fresh HOut.out.sorted hlt)
      have HNX := Lib.hid (fun w2 L2 n y d a1 a2 a3 a4 a5 => hr.next HR.out.dok HK.out HOut.out hlt hR1 hK1 hg1 hm1 hvs (w2 := w2) (L2 := L2) (n := n) (y := y) (d := d) a1 a2 a3 a4 a5)
      have HTX := Lib.hid htx
      have q5 : (0 : Int) ≤ (k : Int) := by omega
      have q6 : (k : Int) < (out.length : Int) := by omega
      clear hr hR1 hK1 hg1 hm1 hkn hne hps hvs htx
      generalize hx : out[k] = x at *
      clear hx
      go_wp2_with fail
      refine CS.out.mono ?_
      rintro e w3 ⟨L2, y, d, n, rfl, hS2, hK2, hg2, hb2, hn2⟩
      rw [HTX.out] at hb2
      have hup := run_update_pp x y w3 (hK2.maps M _ _ HRR.out.mp HRR.out.ne) HFX.out
      have HN := Lib.hid (HNX.out w3 L2 n y d hS2 hK2 hg2 hb2 hn2)
      clear hS2 hK2 hg2 hb2 hn2 CS HNX
      generalize setB w3 M (.map (ppEntries 0 (ps ++ [(x, y)])).toArray (ps ++ [(x, y)]).length) = W4 at *
      go_wp2_with fail
      go_roundw
      case rel => exact ⟨k + 1, _, by omega, by go_num, HN.out⟩
      case measure => simp [intOf]; omega
    · have hke : out.take k = out := List.take_of_length_le (by omega)
      have hlk := run_lookup_pp id wr hr.mp
      have hmem := hr.has (y := id) (by rw [hke]; exact HOut.out.mem)
      obtain ⟨L', m, h1, h2, h3, h4, h5⟩ := hr.ex
      obtain ⟨_, d, hb⟩ := h5 _ hmem
      have HZ : Hid (ZPost B w p mb most L (txt L id) (fun _ k => k ≤ 15677 * id.toNat) (.returned (.tuple #[.int .i64 (valIn ps id), .nilIface])) wr) := ⟨L', _, d, m, rfl, h1.st, h2, h3, hb, by omega⟩
      have q6 : decide ((k : Int) < (out.length : Int)) = false := decide_eq_false (by omega)
      clear hr hmem h1 h2 h3 h4 h5 hb hke
      go_wp2_with fail
      go_ret2
      exact HZ.out

/-- Of in every case. -/
theorem bal_Of {B : Nat} {w : World} {p mb : Nat} {most : Int} {L : List Ent} {id : Int} (hR : Room B w p mb most L (15677 * id.toNat)) (hBig : L.length ≤ 1000000) (hk : isKnown L id) :
    Calls Tryz.prog 70 #[.pointer (some ⟨p, 0, none⟩), .int .i64 id] w (ZPost B w p mb most L (txt L id) (fun _ k => k ≤ 15677 * id.toNat)) := by
  cases he : (entAt L id).even with
  | false => exact bal_Of_odd hR hBig hk he
  | true =>
    refine (bal_Of_even' hR.st id hk he).mono ?_
    rintro e w' ⟨rfl, hf⟩
    exact ZPost.same hR hf ⟨hk, rfl, he, rfl⟩ (Nat.zero_le _)

end Go.Proofs.YtclpndigmidjkaaGreat

/- Plain words: the texts of powers, the lengths of all texts, and how deep a balanced text can be. No program. -/
import Derived.Test.YtgldjpldldknoaaGreatDoorRSt5
import Derived.Deep.LoopGhost
import Derived.Test.YtgldjpldldknoaaGreatDoorRBase
import Derived.Test.YtgldjpldldknoaaGreatDoorRSet
import Derived.Lib.TrailingZeros
set_option linter.unusedSimpArgs false
set_option linter.unusedVariables false
namespace Go.Proofs.YtgldjpldldknoaaGreatDoor
open Go.RowKit
theorem txt_pow {L : List Ent} (h : DOk L) {id : Int} (hk : isKnown L id) (h0 : id ≠ 0) (h3 : (entAt L id).rule.kind = 3) : txt L id = reps (txt L (entAt L id).rule.left) (entAt L id).rule.times.toNat := by
 obtain ⟨g, hg⟩ : ∃ g : Nat, id.toNat = g + 1 := ⟨id.toNat - 1, by have := hk.1; omega⟩
 rcases h.at id hk h0 with ⟨k1, _⟩ | ⟨k1, k2, _⟩ | ⟨k1, k2, _⟩
 · omega
 · omega
 · unfold txt
   rw [hg]
   simp only [txtF]
   rw [if_neg h0, if_neg (by omega), if_neg (by omega)]
   have hb := hk.2
   rw [txtF_eq h g g _ ⟨by omega, by omega⟩ (by omega) (by omega)]
theorem reps_len (t : List Int) (n : Nat) : (reps t n).length = n * t.length := by
 induction n with
 | zero => simp [reps]
 | succ n ih => simp only [reps, List.length_append, ih, Nat.succ_mul]; omega
theorem reps_succ (t : List Int) (n : Nat) : reps t (n + 1) = t ++ reps t n := rfl
theorem reps_two (t : List Int) : ∀ n : Nat, reps t (2 * n) = reps (t ++ t) n
 | 0 => rfl
 | n + 1 => by
  rw [show 2 * (n + 1) = 2 * n + 1 + 1 by omega, reps_succ, reps_succ, reps_two t n, reps_succ, List.append_assoc]
theorem reps_odd (t : List Int) (n : Nat) : reps t (2 * n + 1) = t ++ reps (t ++ t) n := by rw [reps_succ, reps_two]
theorem txt_len {L : List Ent} (hd : DOk L) (hs : SOk L) : ∀ (n : Nat) (id : Int), id.toNat ≤ n → isKnown L id → ((txt L id).length : Int) = (entAt L id).wt.len := by
 intro n
 induction n with
 | zero =>
  intro id h hk
  have h0 : id = 0 := by have := hk.1; omega
  subst h0; rfl
 | succ n ih =>
  intro id h hk
  by_cases h0 : id = 0
  · subst h0; rfl
  · have hb := hk.2
    rcases hd.at id hk h0 with ⟨k1, k3⟩ | ⟨k1, k2, k3⟩ | ⟨k1, k2, k3⟩
    · rw [txt_letter hk h0 k1, k3]
      show (1 : Int) = (Wt.letter _).len
      rw [letter_len]
    · have h1 := ih (entAt L id).rule.left (by omega) ⟨by omega, by omega⟩
      have h2 := ih (entAt L id).rule.right (by omega) ⟨by omega, by omega⟩
      rw [txt_pair hd hk h0 k1, List.length_append]
      have e : (entAt L id).wt.len = (entAt L (entAt L id).rule.left).wt.len + (entAt L (entAt L id).rule.right).wt.len := by
       conv => lhs; rw [k3]
       rfl
      omega
    · have h1 := ih (entAt L id).rule.left (by omega) ⟨by omega, by omega⟩
      have e : (entAt L id).wt.len = (entAt L (entAt L id).rule.left).wt.len * (entAt L id).rule.times := by
       conv => lhs; rw [k3]
       rfl
      have p1 := ((hs.at id hk).2.2.2 h0).1
      have p2 := ((hs.at (entAt L id).rule.left ⟨by omega, by omega⟩).2.2.2 (by omega)).1
      have p3 : 0 ≤ (entAt L id).rule.times := by
       refine Classical.byContradiction fun hn => ?_
       have hm := Int.mul_le_mul_of_nonneg_left (show (entAt L id).rule.times ≤ 0 by omega) (show (0 : Int) ≤ (entAt L (entAt L id).rule.left).wt.len by omega)
       rw [← e, Int.mul_zero] at hm
       omega
      rw [txt_pow hd hk h0 k1, reps_len]
      rw [e, ← h1]
      have e2 : (((entAt L id).rule.times.toNat : Nat) : Int) = (entAt L id).rule.times := by omega
      rw [Int.natCast_mul, e2, Int.mul_comm]
theorem lst87 : lst 87 = 1779979416004714189 := by
 have h0 : lst 0 = 1 := rfl
 have h1 : lst 1 = 2 := rfl
 have h2 : lst 2 = 3 := by rw [show lst 2 = lst 1 + lst 0 from rfl, h1, h0]
 have h3 : lst 3 = 5 := by rw [show lst 3 = lst 2 + lst 1 from rfl, h2, h1]
 have h4 : lst 4 = 8 := by rw [show lst 4 = lst 3 + lst 2 from rfl, h3, h2]
 have h5 : lst 5 = 13 := by rw [show lst 5 = lst 4 + lst 3 from rfl, h4, h3]
 have h6 : lst 6 = 21 := by rw [show lst 6 = lst 5 + lst 4 from rfl, h5, h4]
 have h7 : lst 7 = 34 := by rw [show lst 7 = lst 6 + lst 5 from rfl, h6, h5]
 have h8 : lst 8 = 55 := by rw [show lst 8 = lst 7 + lst 6 from rfl, h7, h6]
 have h9 : lst 9 = 89 := by rw [show lst 9 = lst 8 + lst 7 from rfl, h8, h7]
 have h10 : lst 10 = 144 := by rw [show lst 10 = lst 9 + lst 8 from rfl, h9, h8]
 have h11 : lst 11 = 233 := by rw [show lst 11 = lst 10 + lst 9 from rfl, h10, h9]
 have h12 : lst 12 = 377 := by rw [show lst 12 = lst 11 + lst 10 from rfl, h11, h10]
 have h13 : lst 13 = 610 := by rw [show lst 13 = lst 12 + lst 11 from rfl, h12, h11]
 have h14 : lst 14 = 987 := by rw [show lst 14 = lst 13 + lst 12 from rfl, h13, h12]
 have h15 : lst 15 = 1597 := by rw [show lst 15 = lst 14 + lst 13 from rfl, h14, h13]
 have h16 : lst 16 = 2584 := by rw [show lst 16 = lst 15 + lst 14 from rfl, h15, h14]
 have h17 : lst 17 = 4181 := by rw [show lst 17 = lst 16 + lst 15 from rfl, h16, h15]
 have h18 : lst 18 = 6765 := by rw [show lst 18 = lst 17 + lst 16 from rfl, h17, h16]
 have h19 : lst 19 = 10946 := by rw [show lst 19 = lst 18 + lst 17 from rfl, h18, h17]
 have h20 : lst 20 = 17711 := by rw [show lst 20 = lst 19 + lst 18 from rfl, h19, h18]
 have h21 : lst 21 = 28657 := by rw [show lst 21 = lst 20 + lst 19 from rfl, h20, h19]
 have h22 : lst 22 = 46368 := by rw [show lst 22 = lst 21 + lst 20 from rfl, h21, h20]
 have h23 : lst 23 = 75025 := by rw [show lst 23 = lst 22 + lst 21 from rfl, h22, h21]
 have h24 : lst 24 = 121393 := by rw [show lst 24 = lst 23 + lst 22 from rfl, h23, h22]
 have h25 : lst 25 = 196418 := by rw [show lst 25 = lst 24 + lst 23 from rfl, h24, h23]
 have h26 : lst 26 = 317811 := by rw [show lst 26 = lst 25 + lst 24 from rfl, h25, h24]
 have h27 : lst 27 = 514229 := by rw [show lst 27 = lst 26 + lst 25 from rfl, h26, h25]
 have h28 : lst 28 = 832040 := by rw [show lst 28 = lst 27 + lst 26 from rfl, h27, h26]
 have h29 : lst 29 = 1346269 := by rw [show lst 29 = lst 28 + lst 27 from rfl, h28, h27]
 have h30 : lst 30 = 2178309 := by rw [show lst 30 = lst 29 + lst 28 from rfl, h29, h28]
 have h31 : lst 31 = 3524578 := by rw [show lst 31 = lst 30 + lst 29 from rfl, h30, h29]
 have h32 : lst 32 = 5702887 := by rw [show lst 32 = lst 31 + lst 30 from rfl, h31, h30]
 have h33 : lst 33 = 9227465 := by rw [show lst 33 = lst 32 + lst 31 from rfl, h32, h31]
 have h34 : lst 34 = 14930352 := by rw [show lst 34 = lst 33 + lst 32 from rfl, h33, h32]
 have h35 : lst 35 = 24157817 := by rw [show lst 35 = lst 34 + lst 33 from rfl, h34, h33]
 have h36 : lst 36 = 39088169 := by rw [show lst 36 = lst 35 + lst 34 from rfl, h35, h34]
 have h37 : lst 37 = 63245986 := by rw [show lst 37 = lst 36 + lst 35 from rfl, h36, h35]
 have h38 : lst 38 = 102334155 := by rw [show lst 38 = lst 37 + lst 36 from rfl, h37, h36]
 have h39 : lst 39 = 165580141 := by rw [show lst 39 = lst 38 + lst 37 from rfl, h38, h37]
 have h40 : lst 40 = 267914296 := by rw [show lst 40 = lst 39 + lst 38 from rfl, h39, h38]
 have h41 : lst 41 = 433494437 := by rw [show lst 41 = lst 40 + lst 39 from rfl, h40, h39]
 have h42 : lst 42 = 701408733 := by rw [show lst 42 = lst 41 + lst 40 from rfl, h41, h40]
 have h43 : lst 43 = 1134903170 := by rw [show lst 43 = lst 42 + lst 41 from rfl, h42, h41]
 have h44 : lst 44 = 1836311903 := by rw [show lst 44 = lst 43 + lst 42 from rfl, h43, h42]
 have h45 : lst 45 = 2971215073 := by rw [show lst 45 = lst 44 + lst 43 from rfl, h44, h43]
 have h46 : lst 46 = 4807526976 := by rw [show lst 46 = lst 45 + lst 44 from rfl, h45, h44]
 have h47 : lst 47 = 7778742049 := by rw [show lst 47 = lst 46 + lst 45 from rfl, h46, h45]
 have h48 : lst 48 = 12586269025 := by rw [show lst 48 = lst 47 + lst 46 from rfl, h47, h46]
 have h49 : lst 49 = 20365011074 := by rw [show lst 49 = lst 48 + lst 47 from rfl, h48, h47]
 have h50 : lst 50 = 32951280099 := by rw [show lst 50 = lst 49 + lst 48 from rfl, h49, h48]
 have h51 : lst 51 = 53316291173 := by rw [show lst 51 = lst 50 + lst 49 from rfl, h50, h49]
 have h52 : lst 52 = 86267571272 := by rw [show lst 52 = lst 51 + lst 50 from rfl, h51, h50]
 have h53 : lst 53 = 139583862445 := by rw [show lst 53 = lst 52 + lst 51 from rfl, h52, h51]
 have h54 : lst 54 = 225851433717 := by rw [show lst 54 = lst 53 + lst 52 from rfl, h53, h52]
 have h55 : lst 55 = 365435296162 := by rw [show lst 55 = lst 54 + lst 53 from rfl, h54, h53]
 have h56 : lst 56 = 591286729879 := by rw [show lst 56 = lst 55 + lst 54 from rfl, h55, h54]
 have h57 : lst 57 = 956722026041 := by rw [show lst 57 = lst 56 + lst 55 from rfl, h56, h55]
 have h58 : lst 58 = 1548008755920 := by rw [show lst 58 = lst 57 + lst 56 from rfl, h57, h56]
 have h59 : lst 59 = 2504730781961 := by rw [show lst 59 = lst 58 + lst 57 from rfl, h58, h57]
 have h60 : lst 60 = 4052739537881 := by rw [show lst 60 = lst 59 + lst 58 from rfl, h59, h58]
 have h61 : lst 61 = 6557470319842 := by rw [show lst 61 = lst 60 + lst 59 from rfl, h60, h59]
 have h62 : lst 62 = 10610209857723 := by rw [show lst 62 = lst 61 + lst 60 from rfl, h61, h60]
 have h63 : lst 63 = 17167680177565 := by rw [show lst 63 = lst 62 + lst 61 from rfl, h62, h61]
 have h64 : lst 64 = 27777890035288 := by rw [show lst 64 = lst 63 + lst 62 from rfl, h63, h62]
 have h65 : lst 65 = 44945570212853 := by rw [show lst 65 = lst 64 + lst 63 from rfl, h64, h63]
 have h66 : lst 66 = 72723460248141 := by rw [show lst 66 = lst 65 + lst 64 from rfl, h65, h64]
 have h67 : lst 67 = 117669030460994 := by rw [show lst 67 = lst 66 + lst 65 from rfl, h66, h65]
 have h68 : lst 68 = 190392490709135 := by rw [show lst 68 = lst 67 + lst 66 from rfl, h67, h66]
 have h69 : lst 69 = 308061521170129 := by rw [show lst 69 = lst 68 + lst 67 from rfl, h68, h67]
 have h70 : lst 70 = 498454011879264 := by rw [show lst 70 = lst 69 + lst 68 from rfl, h69, h68]
 have h71 : lst 71 = 806515533049393 := by rw [show lst 71 = lst 70 + lst 69 from rfl, h70, h69]
 have h72 : lst 72 = 1304969544928657 := by rw [show lst 72 = lst 71 + lst 70 from rfl, h71, h70]
 have h73 : lst 73 = 2111485077978050 := by rw [show lst 73 = lst 72 + lst 71 from rfl, h72, h71]
 have h74 : lst 74 = 3416454622906707 := by rw [show lst 74 = lst 73 + lst 72 from rfl, h73, h72]
 have h75 : lst 75 = 5527939700884757 := by rw [show lst 75 = lst 74 + lst 73 from rfl, h74, h73]
 have h76 : lst 76 = 8944394323791464 := by rw [show lst 76 = lst 75 + lst 74 from rfl, h75, h74]
 have h77 : lst 77 = 14472334024676221 := by rw [show lst 77 = lst 76 + lst 75 from rfl, h76, h75]
 have h78 : lst 78 = 23416728348467685 := by rw [show lst 78 = lst 77 + lst 76 from rfl, h77, h76]
 have h79 : lst 79 = 37889062373143906 := by rw [show lst 79 = lst 78 + lst 77 from rfl, h78, h77]
 have h80 : lst 80 = 61305790721611591 := by rw [show lst 80 = lst 79 + lst 78 from rfl, h79, h78]
 have h81 : lst 81 = 99194853094755497 := by rw [show lst 81 = lst 80 + lst 79 from rfl, h80, h79]
 have h82 : lst 82 = 160500643816367088 := by rw [show lst 82 = lst 81 + lst 80 from rfl, h81, h80]
 have h83 : lst 83 = 259695496911122585 := by rw [show lst 83 = lst 82 + lst 81 from rfl, h82, h81]
 have h84 : lst 84 = 420196140727489673 := by rw [show lst 84 = lst 83 + lst 82 from rfl, h83, h82]
 have h85 : lst 85 = 679891637638612258 := by rw [show lst 85 = lst 84 + lst 83 from rfl, h84, h83]
 have h86 : lst 86 = 1100087778366101931 := by rw [show lst 86 = lst 85 + lst 84 from rfl, h85, h84]
 have h87 : lst 87 = 1779979416004714189 := by rw [show lst 87 = lst 86 + lst 85 from rfl, h86, h85]
 exact h87
theorem BalZ.deep86 {L : List Ent} {id : Int} {t : List Int} {d : Int} (h : BalZ L id t d) (hd : DOk L) (hs : SOk L) (hl : (t.length : Int) ≤ 1152921504606846976) : 0 ≤ d ∧ d ≤ 86 := by
 have := h.deep hd hs (D := 86) (by rw [lst87]; omega)
 omega
theorem joinN_le {a b : Int} (h1 : 0 ≤ a) (h2 : a ≤ 86) (h3 : 0 ≤ b) (h4 : b ≤ 86) : joinN a b ≤ 256 := by unfold joinN; omega
theorem joinN_self (a : Int) : joinN a a = 1 := by unfold joinN; omega
end Go.Proofs.YtgldjpldldknoaaGreatDoor
/- The walk of balance.repeat. -/
set_option linter.unusedSimpArgs false
set_option linter.unusedVariables false
namespace Go.Proofs.YtgldjpldldknoaaGreatDoor
open Go.RowKit
structure RpR (B : Nat) (w wr : World) (p mb : Nat) (most : Int) (L : List Ent) (goal : List Int) (g : Nat) (id r kk : Int) : Prop where
 ex : ∃ L' T R d dr m, Room B wr p mb most L' (257 * g) ∧ Kp B mb w wr ∧ Grows L L' m ∧ m + 257 * g ≤ 15677 ∧ BalZ L' id T d ∧ BalZ L' r R dr ∧ R ++ reps T kk.toNat = goal
 k1 : 1 ≤ kk
 k2 : kk.toNat < 2 ^ g
 k3 : kk ≤ 1152921504606846976
theorem reps_le (t : List Int) {n : Nat} (h : 1 ≤ n) : t.length ≤ (reps t n).length := by
 rw [reps_len]
 have := Nat.mul_le_mul_right t.length h
 omega
theorem reps_le2 (t : List Int) {n : Nat} (h : 2 ≤ n) : 2 * t.length ≤ (reps t n).length := by
 rw [reps_len]
 exact Nat.mul_le_mul_right t.length h
theorem lt61 {k : Int} (h1 : 1 ≤ k) (h2 : k ≤ 1152921504606846976) : k.toNat < 2 ^ 61 := by
 have : (2 : Nat) ^ 61 = 2305843009213693952 := by decide
 omega
theorem rep_end {B : Nat} {w wr w1 : World} {p mb : Nat} {most : Int} {L L' L1 : List Ent} {goal T R : List Int} {m n : Nat} {kk id1 d1 : Int} (hK : Kp B mb w wr) (g1 : Grows L L' m) (hS : Sto B w1 p mb most L1) (hK1 : Kp B mb wr w1) (g2 : Grows L' L1 n) (hb : BalZ L1 id1 (R ++ T) d1)
    (he : R ++ reps T kk.toNat = goal) (hk : kk = 1) (hm : m + n ≤ 15677) : ZPost B w p mb most L goal (fun _ k => k ≤ 15677) (.returned (.tuple #[.int .i64 id1, .nilIface])) w1 := by
 subst hk
 have e : R ++ T = goal := by rw [← he]; show R ++ T = R ++ (T ++ []); rw [List.append_nil]
 rw [e] at hb
 exact ⟨L1, id1, d1, m + n, rfl, hS, hK.trans hK1, g1.trans g2 (Nat.le_refl _), hb, hm⟩
set_option maxRecDepth 100000 in
set_option maxHeartbeats 2000000 in
theorem bal_repeat {B : Nat} {w : World} {p mb : Nat} {most : Int} {L : List Ent} {id k : Int} {t : List Int} {d : Int} (hR : Room B w p mb most L 15677) (hb : BalZ L id t d) (h1 : 1 ≤ k) (h2 : k ≤ 1152921504606846976) (hl : ((reps t k.toNat).length : Int) ≤ 1152921504606846976) :
    Calls Tryz.prog 25 #[.pointer (some ⟨p, 0, none⟩), .int .i64 id, .int .i64 k] w (ZPost B w p mb most L (reps t k.toNat) (fun _ k => k ≤ 15677)) := by
 have H0 : Hid (RpR B w w p mb most L (reps t k.toNat) 61 id 0 k) := ⟨⟨L, t, [], d, 0, 0, hR, Kp.refl _ _ _, Grows.refl hR.sok hR.dok, by omega, hb, BalZ.zero L, rfl⟩, h1, lt61 h1 h2, h2⟩
 generalize reps t k.toNat = goal at *
 have HL := Lib.hid hl
 clear hR hb hl
 go_enter Tryz.func25, Tryz.ntmps25
 go_wp2_with fail
 go_loopg [1, 2, 8] 61 (fun gk i kv rv wr => ∃ id r kk : Int, i = .int .i64 id ∧ kv = .int .i64 kk ∧ rv = .int .i64 r ∧ RpR B w wr p mb most L goal gk id r kk)
 case atStart => exact ⟨id, 0, k, rfl, rfl, rfl, H0.out⟩
 case round =>
  clear H0 h1 h2
  obtain ⟨id, r, kk, rfl, rfl, rfl, hr⟩ := hrel
  obtain ⟨⟨L', T, R, d', dr, m, hR, hK, hg, hm, hT, hRR, he⟩, k1, k2, k3⟩ := hr
  obtain ⟨g, rfl⟩ : ∃ g, gk = g + 1 := ⟨gk - 1, by cases gk with | zero => simp at k2; omega | succ g => omega⟩
  have hTl := reps_le T (n := kk.toNat) (by omega)
  have hgl := HL.out
  have hsum : R.length + (reps T kk.toNat).length = goal.length := by rw [← he, List.length_append]
  obtain ⟨a0, a1⟩ := hT.deep86 hR.dok hR.sok (by omega)
  obtain ⟨b0, b1⟩ := hRR.deep86 hR.dok hR.sok (by omega)
  have hj := joinN_le b0 b1 a0 a1
  have hpow : 2 ^ (g + 1) = 2 * 2 ^ g := by rw [Nat.pow_succ]; omega
  have d0 : 0 ≤ kk / 2 := by omega
  have HX2 : Hid (∀ {w1 L1 n1 r1 R1 d1 w2 L2 id2 d2 n2}, Room B w1 p mb most L1 1 → Kp B mb wr w1 → Grows L' L1 n1 → n1 ≤ 256 → BalZ L1 r1 R1 d1 → R1 ++ reps (T ++ T) (kk / 2).toNat = goal → 1 ≤ kk / 2 → Sto B w2 p mb most L2 → Kp B mb w1 w2 → Grows L1 L2 n2 → BalZ L2 id2 (T ++ T) d2 → n2 ≤ 1 → RpR B w w2 p mb most L goal g id2 r1 (kk / 2)) := by
   intro w1 L1 n1 r1 R1 d1 w2 L2 id2 d2 n2 x1 x2 x3 x4 x5 x6 x7 x8 x9 x10 x11 x12
   have y1 := hR.next (k := 257 * g + 1) x1.st x2 x3 (by omega)
   exact ⟨⟨L2, T ++ T, R1, d2, d1, m + n1 + n2, y1.next x8 x9 x10 (by omega), (hK.trans x2).trans x9, (hg.trans x3 (Nat.le_refl _)).trans x10 (Nat.le_refl _), by omega, x11, x10.balz x1.dok x5, x6⟩, x7, by rw [hpow] at k2; omega, by omega⟩
  by_cases hodd : kk % 2 = 1
  · have q1 : (kk % 2 == 1) = true := beq_iff_eq.2 hodd
    have C1 := Lib.hid (avl_Join (hR.less (show joinN dr d' ≤ 257 * (g + 1) by omega)) hRR hT (by omega))
    by_cases hz : kk / 2 = 0
    · have q2 : (kk / 2 == 0) = true := beq_iff_eq.2 hz
      have HK1 : Hid (kk = 1) := by show kk = 1; omega
      have HE := Lib.hid (fun w1 L1 n id1 d1 => @rep_end B w wr w1 p mb most L L' L1 goal T R m n kk id1 d1 hK hg)
      have HEQ := Lib.hid he
      clear he hodd hz hsum hK hg hR hT hRR HX2 hpow k2
      go_wp2_with fail
      refine C1.out.mono ?_
      rintro e w1 ⟨L1, id1, d1, n1, rfl, hS1, hK1, hg1, hb1, hD1⟩
      have HX := Lib.hid (HE.out _ _ _ _ _ hS1 hK1 hg1 hb1 HEQ.out HK1.out (by have := hD1.2; omega))
      clear hS1 hK1 hg1 hb1 hD1
      go_wp2_with fail
      go_ret2
      exact HX.out
    · have q2 : (kk / 2 == 0) = false := beq_eq_false_iff_ne.2 hz
      have HE1 : Hid (1 ≤ kk / 2) := by show _ ≤ _; omega
      have HT2 : Hid (2 * T.length ≤ goal.length) := by show _ ≤ _; have := reps_le2 T (n := kk.toNat) (by omega); omega
      have HEQ : Hid ((R ++ T) ++ reps (T ++ T) (kk / 2).toNat = goal) := by
       show _ = _
       rw [← he, show kk.toNat = 2 * (kk / 2).toNat + 1 by omega, reps_odd, List.append_assoc]
      have HR := Lib.hid hR
      have HT := Lib.hid hT
      clear he hodd hz hsum hK hg hR hT hRR hpow k2
      go_wp2_with fail
      refine C1.out.mono ?_
      rintro e w1 ⟨L1, id1, d1, n1, rfl, hS1, hK1, hg1, hb1, hD1⟩
      have hR1 := HR.out.next (k := 1) hS1 hK1 hg1 (by have := hD1.2; omega)
      have hT1 := hg1.balz HR.out.dok HT.out
      have C2 := Lib.hid (avl_Join (hR1.less (show joinN d' d' ≤ 1 by rw [joinN_self]; omega)) hT1 hT1 (by have := HT2.out; omega))
      have HX3 := Lib.hid (fun w2 L2 id2 d2 n2 => HX2.out (w2 := w2) (L2 := L2) (id2 := id2) (d2 := d2) (n2 := n2) hR1 hK1 hg1 (by have := hD1.2; omega) hb1 HEQ.out HE1.out)
      clear hS1 hK1 hg1 hb1 hD1 hR1 hT1 C1 HX2
      go_wp2_with fail
      refine C2.out.mono ?_
      rintro e w2 ⟨L2, id2, d2, n2, rfl, hS2, hK2, hg2, hb2, hD2⟩
      have HX := Lib.hid (HX3.out _ _ _ _ _ hS2 hK2 hg2 hb2 (by have := hD2.2; rw [joinN_self] at this; exact this))
      clear hS2 hK2 hg2 hb2 hD2 C2 HX3
      go_wp2_with fail
      go_roundg g
      case measure => omega
      case rel => exact ⟨id2, id1, kk / 2, rfl, rfl, rfl, HX.out⟩
  · have q1 : (kk % 2 == 1) = false := beq_eq_false_iff_ne.2 hodd
    have q2 : (kk / 2 == 0) = false := beq_eq_false_iff_ne.2 (by omega)
    have HE1 : Hid (1 ≤ kk / 2) := by show _ ≤ _; omega
    have HT2 : Hid (2 * T.length ≤ goal.length) := by show _ ≤ _; have := reps_le2 T (n := kk.toNat) (by omega); omega
    have HEQ : Hid (R ++ reps (T ++ T) (kk / 2).toNat = goal) := by
     show _ = _
     rw [← he, show kk.toNat = 2 * (kk / 2).toNat by omega, reps_two]
    have hR1 := hR.less (m := 1) (by omega)
    have C2 := Lib.hid (avl_Join (hR1.less (show joinN d' d' ≤ 1 by rw [joinN_self]; omega)) hT hT (by have := HT2.out; omega))
    have HX3 := Lib.hid (fun w2 L2 id2 d2 n2 => HX2.out (w2 := w2) (L2 := L2) (id2 := id2) (d2 := d2) (n2 := n2) hR1 (Kp.refl _ _ _) (Grows.refl hR.sok hR.dok) (by omega) hRR HEQ.out HE1.out)
    clear he hodd hsum hK hg hR hT hRR hpow k2 hR1 HX2
    go_wp2_with fail
    refine C2.out.mono ?_
    rintro e w2 ⟨L2, id2, d2, n2, rfl, hS2, hK2, hg2, hb2, hD2⟩
    have HX := Lib.hid (HX3.out _ _ _ _ _ hS2 hK2 hg2 hb2 (by have := hD2.2; rw [joinN_self] at this; exact this))
    clear hS2 hK2 hg2 hb2 hD2 C2 HX3
    go_wp2_with fail
    go_roundg g
    case measure => omega
    case rel => exact ⟨id2, r, kk / 2, rfl, rfl, rfl, HX.out⟩
end Go.Proofs.YtgldjpldldknoaaGreatDoor
/- The walk of balance.Repeat. -/
set_option linter.unusedSimpArgs false
set_option linter.unusedVariables false
namespace Go.Proofs.YtgldjpldldknoaaGreatDoor
open Go.RowKit
theorem len_MulZ (a k : Int) (w : World) (ha : 0 ≤ a) (hk : 0 ≤ k) (h : a * k ≤ 1152921504606846976) (ha2 : a ≤ 1152921504606846976) :
    Calls Tryz.prog 24 #[.int .i64 a, .int .i64 k] w fun e w' => (∃ v, e = .returned (.tuple #[.int .i64 v, .nilIface])) ∧ w = w' := by
 by_cases h0 : a = 0
 · subst h0
   refine (len_Mul_zero k w hk).mono ?_
   rintro e w' ⟨rfl, rfl⟩
   exact ⟨⟨_, rfl⟩, rfl⟩
 · refine (len_Mul_ok a k w (by omega) hk h ha2).mono ?_
   rintro e w' ⟨rfl, rfl⟩
   exact ⟨⟨_, rfl⟩, rfl⟩
set_option maxRecDepth 100000 in
set_option maxHeartbeats 2000000 in
theorem bal_Repeat {B : Nat} {w : World} {p mb : Nat} {most : Int} {L : List Ent} {id k : Int} {t : List Int} {d : Int} (hR : Room B w p mb most L 15677) (hb : BalZ L id t d) (h1 : 0 ≤ k) (h2 : k ≤ 1152921504606846976) (htl : t.length ≤ 1152921504606846976) (hl : ((reps t k.toNat).length : Int) ≤ 1152921504606846976) :
    Calls Tryz.prog 10 #[.pointer (some ⟨p, 0, none⟩), .int .i64 id, .int .i64 k] w (ZPost B w p mb most L (reps t k.toNat) (fun _ n => n ≤ 15677)) := by
 have hlen := hb.len hR.dok hR.sok
 have hni := hb.nil_iff hR.dok hR.sok
 have hmul : (t.length : Int) * k ≤ 1152921504606846976 := by
  rw [reps_len] at hl
  rw [Int.natCast_mul, Int.toNat_of_nonneg h1, Int.mul_comm] at hl
  exact hl
 have CB : Hid (∀ W, Fr0 w W → Calls Tryz.prog 23 #[.pointer (some ⟨p, 0, none⟩), .int .i64 id] W fun e w' => e = .returned (.tuple #[.bool true, .nilIface]) ∧ Fr0 W w') := fun W hW => by
  obtain ⟨sv, hS, _⟩ := hR.st.kept0 hW
  have := avl_Balanced hS id hb.known
  rw [hb.even] at this
  exact this
 have CW := Lib.hid (fun W (hW : Fr0 w W) => sto_Weight (hR.st.kept0 hW) id hb.known)
 rw [← hlen] at CW
 have CM := Lib.hid (fun W => len_MulZ (t.length : Int) k W (by omega) h1 hmul (by omega))
 have CR := Lib.hid (fun W (hW : Fr0 w W) (h : 1 ≤ k) => bal_repeat (hR.kept0 hW) hb h h2 hl)
 have HX : Hid (∀ W, Fr0 w W → (k = 0 ∨ id = 0) → ZPost B w p mb most L (reps t k.toNat) (fun _ n => n ≤ 15677) (.returned (.tuple #[.int .i64 0, .nilIface])) W) := fun W hW h => by
  have e : reps t k.toNat = [] := by
   rcases h with h | h
   · subst h; rfl
   · have ht := hni.1 h
     subst ht
     exact List.eq_nil_of_length_eq_zero (by rw [reps_len]; simp)
  rw [e]
  exact ZPost.same hR hW (BalZ.zero L) (by omega)
 have HK := Lib.hid (fun W W' (f : Fr0 w W) (h : Kp B mb W W') => ((Kp.of0 (B := B) (mb := mb) f).trans h))
 generalize (entAt L id).wt = wt at *
 clear hlen hni hmul hR hb hl
 have z0 : decide (k < 0) = false := decide_eq_false (by omega)
 go_enter Tryz.func10, Tryz.ntmps10
 go_wp2_with fail
 refine (CB.out _ (Fr0.refl _)).mono ?_
 rintro e w1 ⟨rfl, f1⟩
 have HF1 := Lib.hid f1
 clear f1 CB
 go_wp2_with fail
 refine (CW.out _ HF1.out).mono ?_
 rintro e w2 ⟨rfl, f2⟩
 go_upto_region 9 with fail
 have F2 : Fr0 w (w2.alloc (.cells #[.int .i64 t.length, .int .i64 wt.lines, .int .i64 wt.head, .int .i64 wt.tail, .int .u64 wt.val, .int .u64 wt.scale] 47 (0, 0))) := (HF1.out.trans f2).alloc _
 have b2 := alloc_at w2 (.cells #[.int .i64 t.length, .int .i64 wt.lines, .int .i64 wt.head, .int .i64 wt.tail, .int .u64 wt.val, .int .u64 wt.scale] 47 (0, 0)) w2.heap.size rfl
 generalize w2.alloc (.cells #[.int .i64 t.length, .int .i64 wt.lines, .int .i64 wt.head, .int .i64 wt.tail, .int .u64 wt.val, .int .u64 wt.scale] 47 (0, 0)) = W2 at *
 generalize w2.heap.size = K2 at *
 have d0 : W2.cell? ⟨K2, 0, none⟩ = some (.int .i64 t.length) := by rw [cell_of_block b2]; rfl
 have ld := lt_of_block b2
 have HF2 := Lib.hid F2
 clear b2 F2 f2 HF1 CW
 go_wp2_with fail
 refine (CM.out W2).mono ?_
 rintro e w3 ⟨⟨v, rfl⟩, rfl⟩
 by_cases hk0 : k = 0
 · have z1 : (k == 0) = true := by rw [hk0]; rfl
   have HY := Lib.hid (HX.out _ HF2.out (.inl hk0))
   clear hk0 HX CR
   go_wp2_with fail
   go_ret2
   exact HY.out
 · have z1 : (k == 0) = false := beq_eq_false_iff_ne.2 hk0
   by_cases hi0 : id = 0
   · have z2 : (id == 0) = true := by rw [hi0]; rfl
     have HY := Lib.hid (HX.out _ HF2.out (.inr hi0))
     clear hi0 HX CR
     go_wp2_with fail
     go_ret2
     exact HY.out
   · have z2 : (id == 0) = false := beq_eq_false_iff_ne.2 hi0
     have CR2 := Lib.hid (CR.out W2 HF2.out (by omega))
     clear CR HX
     go_wp2_with fail
     refine CR2.out.mono ?_
     rintro e w4 ⟨L4, id4, d4, k4, rfl, hS, hK, hg, hb, hn⟩
     have HY : Hid (ZPost B w p mb most L (reps t k.toNat) (fun _ n => n ≤ 15677) (.returned (.tuple #[.int .i64 id4, .nilIface])) w4) := ⟨L4, id4, d4, k4, rfl, hS, HK.out _ _ HF2.out hK, hg, hb, hn⟩
     clear hS hK hg hb hn CR2
     go_wp2_with fail
     go_ret2
     exact HY.out
end Go.Proofs.YtgldjpldldknoaaGreatDoor
/- Plain words: the groups of two patches. No program. -/
set_option linter.unusedSimpArgs false
set_option linter.unusedVariables false
namespace Go.Proofs.YtgldjpldldknoaaGreatDoor
open Go.RowKit
section
variable {α : Type} (a n : α → Int)
def mrgS : List α → List α → List (α × Bool)
 | [], q => q.map fun y => (y, false)
 | x :: p, [] => (x :: p).map fun y => (y, true)
 | x :: p, y :: q => if a x ≤ a y then (x, true) :: mrgS p (y :: q) else (y, false) :: mrgS (x :: p) q
termination_by p q => p.length + q.length
structure Grp (α : Type) where
 at_ : Int
 end_ : Int
 left : List α
 right : List α
def Grp.ext (g : Grp α) (z : α × Bool) : Grp α := ⟨g.at_, max g.end_ (a z.1 + n z.1), if z.2 then g.left ++ [z.1] else g.left, if z.2 then g.right else g.right ++ [z.1]⟩
def Grp.new (z : α × Bool) : Grp α := Grp.ext a n ⟨a z.1, a z.1 + n z.1, [], []⟩ z
def stepG (gs : List (Grp α)) (z : α × Bool) : List (Grp α) :=
 match gs.getLast? with
 | none => [Grp.new a n z]
 | some g => if g.end_ < a z.1 then gs ++ [Grp.new a n z] else gs.dropLast ++ [g.ext a n z]
theorem stepG_nil (z : α × Bool) : stepG a n [] z = [Grp.new a n z] := rfl
theorem stepG_snoc (gs : List (Grp α)) (g : Grp α) (z : α × Bool) : stepG a n (gs ++ [g]) z = if g.end_ < a z.1 then gs ++ [g] ++ [Grp.new a n z] else gs ++ [g.ext a n z] := by
 unfold stepG
 rw [List.getLast?_concat, List.dropLast_concat]
def dvdG (p q : List α) : List (Grp α) := (mrgS a p q).foldl (stepG a n) []
def Disj (D : List (Int × Int)) : Prop := ∀ d ∈ D, ∀ e ∈ D, d.1 ≤ e.2 → e.1 ≤ d.2 → d = e
def InR (D : List (Int × Int)) (x y : Int) : Prop := ∃ d ∈ D, d.1 ≤ x ∧ y ≤ d.2
theorem Disj.join {D : List (Int × Int)} (h : Disj D) {x y u v : Int} (hxy : x ≤ y) (huv : u ≤ v) (h1 : InR D x y) (h2 : InR D u v) (o1 : x ≤ v) (o2 : u ≤ y) : InR D (min x u) (max y v) := by
 obtain ⟨d, d1, d2, d3⟩ := h1
 obtain ⟨e, e1, e2, e3⟩ := h2
 have := h d d1 e e1 (by omega) (by omega)
 subst this
 exact ⟨d, d1, by omega, by omega⟩
def smN : List α → Int
 | [] => 0
 | c :: r => n c + smN r
theorem smN_snoc (c : α) : ∀ l : List α, smN n (l ++ [c]) = smN n l + n c
 | [] => by simp [smN]
 | x :: l => by show n x + smN n (l ++ [c]) = n x + smN n l + n c; rw [smN_snoc c l]; omega
structure GI (gs : List (Grp α)) (zs : List (α × Bool)) (m : Int) : Prop where
 asc : gs.Pairwise fun g h => g.end_ < h.at_
 rng : ∀ g ∈ gs, g.at_ ≤ g.end_ ∧ g.at_ ≤ m
 inl : ∀ g ∈ gs, ∀ c ∈ g.left, g.at_ ≤ a c ∧ a c + n c ≤ g.end_
 inr : ∀ g ∈ gs, ∀ c ∈ g.right, g.at_ ≤ a c ∧ a c + n c ≤ g.end_
 lefts : gs.flatMap Grp.left = (zs.filter fun z => z.2).map Prod.fst
 rights : gs.flatMap Grp.right = (zs.filter fun z => !z.2).map Prod.fst
 con : ∀ D, Disj D → (∀ z ∈ zs, InR D (a z.1) (a z.1 + n z.1)) → ∀ g ∈ gs, InR D g.at_ g.end_
 siz : ∀ g ∈ gs, g.end_ - g.at_ ≤ smN n g.left + smN n g.right
 ne : ∀ g ∈ gs, g.left ≠ [] ∨ g.right ≠ []
theorem GI.start (m : Int) : GI a n ([] : List (Grp α)) [] m where
 asc := List.Pairwise.nil
 rng := fun g h => by simp at h
 inl := fun g h => by simp at h
 inr := fun g h => by simp at h
 lefts := rfl
 rights := rfl
 con := fun D _ _ g h => by simp at h
 siz := fun g h => by simp at h
 ne := fun g h => by simp at h
variable {a n}
theorem GI.new {gs : List (Grp α)} {zs : List (α × Bool)} {m : Int} (h : GI a n gs zs m) {z : α × Bool} (hm : m ≤ a z.1) (hn : 0 ≤ n z.1) (hl : ∀ g ∈ gs, g.end_ < a z.1) : GI a n (gs ++ [Grp.new a n z]) (zs ++ [z]) (a z.1) := by
 have e1 : (Grp.new a n z).at_ = a z.1 := rfl
 have e2 : (Grp.new a n z).end_ = a z.1 + n z.1 := by show max _ _ = _; simp
 have hb : z.2 = true ∧ (Grp.new a n z).left = [z.1] ∧ (Grp.new a n z).right = [] ∨ z.2 = false ∧ (Grp.new a n z).left = [] ∧ (Grp.new a n z).right = [z.1] := by
  cases hz : z.2
  · exact Or.inr ⟨rfl, by simp [Grp.new, Grp.ext, hz], by simp [Grp.new, Grp.ext, hz]⟩
  · exact Or.inl ⟨rfl, by simp [Grp.new, Grp.ext, hz], by simp [Grp.new, Grp.ext, hz]⟩
 generalize Grp.new a n z = g at e1 e2 hb
 have two : ∀ x ∈ gs ++ [g], x ∈ gs ∨ x = g := fun x hx => by simpa using hx
 refine ⟨?_, ?_, ?_, ?_, ?_, ?_, ?_, ?_, ?_⟩
 · rw [List.pairwise_append]
   exact ⟨h.asc, by simp, fun x hx y hy => by rw [List.mem_singleton.1 hy, e1]; exact hl x hx⟩
 · intro x hx
   rcases two x hx with hx | rfl
   · have := h.rng x hx; omega
   · omega
 · intro x hx c hc
   rcases two x hx with hx | rfl
   · exact h.inl x hx c hc
   · rcases hb with ⟨_, b, _⟩ | ⟨_, b, _⟩
     · rw [b, List.mem_singleton] at hc; subst hc; omega
     · rw [b] at hc; simp at hc
 · intro x hx c hc
   rcases two x hx with hx | rfl
   · exact h.inr x hx c hc
   · rcases hb with ⟨_, _, b⟩ | ⟨_, _, b⟩
     · rw [b] at hc; simp at hc
     · rw [b, List.mem_singleton] at hc; subst hc; omega
 · rw [List.flatMap_append, h.lefts, List.filter_append, List.map_append]
   rcases hb with ⟨b1, b, _⟩ | ⟨b1, b, _⟩ <;> simp [b1, b]
 · rw [List.flatMap_append, h.rights, List.filter_append, List.map_append]
   rcases hb with ⟨b1, _, b⟩ | ⟨b1, _, b⟩ <;> simp [b1, b]
 · intro D hD hz x hx
   rcases two x hx with hx | rfl
   · exact h.con D hD (fun u hu => hz u (by simp [hu])) x hx
   · rw [e1, e2]; exact hz z (by simp)
 · intro x hx
   rcases two x hx with hx | rfl
   · exact h.siz x hx
   · rcases hb with ⟨_, b, b'⟩ | ⟨_, b, b'⟩
     · rw [b, b']; simp only [smN]; omega
     · rw [b, b']; simp only [smN]; omega
 · intro x hx
   rcases two x hx with hx | rfl
   · exact h.ne x hx
   · rcases hb with ⟨_, b, _⟩ | ⟨_, _, b⟩
     · exact Or.inl (by simp [b])
     · exact Or.inr (by simp [b])
theorem GI.ext {gs : List (Grp α)} {g0 : Grp α} {zs : List (α × Bool)} {m : Int} (h : GI a n (gs ++ [g0]) zs m) {z : α × Bool} (hm : m ≤ a z.1) (hn : 0 ≤ n z.1) (hl : a z.1 ≤ g0.end_) : GI a n (gs ++ [g0.ext a n z]) (zs ++ [z]) (a z.1) := by
 have e1 : (g0.ext a n z).at_ = g0.at_ := rfl
 have e2 : (g0.ext a n z).end_ = max g0.end_ (a z.1 + n z.1) := rfl
 have hb : z.2 = true ∧ (g0.ext a n z).left = g0.left ++ [z.1] ∧ (g0.ext a n z).right = g0.right ∨ z.2 = false ∧ (g0.ext a n z).left = g0.left ∧ (g0.ext a n z).right = g0.right ++ [z.1] := by
  cases hz : z.2
  · exact Or.inr ⟨rfl, by simp [Grp.ext, hz], by simp [Grp.ext, hz]⟩
  · exact Or.inl ⟨rfl, by simp [Grp.ext, hz], by simp [Grp.ext, hz]⟩
 generalize g0.ext a n z = g at e1 e2 hb
 have two : ∀ x ∈ gs ++ [g], x ∈ gs ∨ x = g := fun x hx => by simpa using hx
 have o : ∀ x ∈ gs, x ∈ gs ++ [g0] := fun x hx => by simp [hx]
 have o0 : g0 ∈ gs ++ [g0] := by simp
 have r0 := h.rng g0 o0
 refine ⟨?_, ?_, ?_, ?_, ?_, ?_, ?_, ?_, ?_⟩
 · have := h.asc
   rw [List.pairwise_append] at this ⊢
   exact ⟨this.1, by simp, fun x hx y hy => by rw [List.mem_singleton.1 hy, e1]; exact this.2.2 x hx g0 (by simp)⟩
 · intro x hx
   rcases two x hx with hx | rfl
   · have := h.rng x (o x hx); omega
   · omega
 · intro x hx c hc
   rcases two x hx with hx | rfl
   · exact h.inl x (o x hx) c hc
   · have old : c ∈ g0.left → x.at_ ≤ a c ∧ a c + n c ≤ x.end_ := fun hc => by have := h.inl g0 o0 c hc; omega
     rcases hb with ⟨_, b, _⟩ | ⟨_, b, _⟩
     · rw [b] at hc
       rcases List.mem_append.1 hc with hc | hc
       · exact old hc
       · rw [List.mem_singleton] at hc; subst hc; omega
     · rw [b] at hc; exact old hc
 · intro x hx c hc
   rcases two x hx with hx | rfl
   · exact h.inr x (o x hx) c hc
   · have old : c ∈ g0.right → x.at_ ≤ a c ∧ a c + n c ≤ x.end_ := fun hc => by have := h.inr g0 o0 c hc; omega
     rcases hb with ⟨_, _, b⟩ | ⟨_, _, b⟩
     · rw [b] at hc; exact old hc
     · rw [b] at hc
       rcases List.mem_append.1 hc with hc | hc
       · exact old hc
       · rw [List.mem_singleton] at hc; subst hc; omega
 · have := h.lefts
   rw [List.flatMap_append] at this
   rw [List.flatMap_append, List.filter_append, List.map_append, ← this]
   rcases hb with ⟨b1, b, _⟩ | ⟨b1, b, _⟩ <;> simp [b1, b]
 · have := h.rights
   rw [List.flatMap_append] at this
   rw [List.flatMap_append, List.filter_append, List.map_append, ← this]
   rcases hb with ⟨b1, _, b⟩ | ⟨b1, _, b⟩ <;> simp [b1, b]
 · intro D hD hz x hx
   have q := h.con D hD (fun u hu => hz u (by simp [hu]))
   rcases two x hx with hx | rfl
   · exact q x (o x hx)
   · have := hD.join r0.1 (by omega) (q g0 o0) (hz z (by simp)) (by omega) hl
     rw [e1, e2]
     rwa [show min g0.at_ (a z.1) = g0.at_ by omega] at this
 · intro x hx
   have q := h.siz g0 o0
   rcases two x hx with hx | rfl
   · exact h.siz x (o x hx)
   · rcases hb with ⟨_, b, b'⟩ | ⟨_, b, b'⟩
     · rw [b, b', smN_snoc]; omega
     · rw [b, b', smN_snoc]; omega
 · intro x hx
   rcases two x hx with hx | rfl
   · exact h.ne x (o x hx)
   · rcases hb with ⟨_, b, _⟩ | ⟨_, _, b⟩
     · exact Or.inl (by simp [b])
     · exact Or.inr (by simp [b])
theorem GI.step {gs : List (Grp α)} {zs : List (α × Bool)} {m : Int} (h : GI a n gs zs m) {z : α × Bool} (hm : m ≤ a z.1) (hn : 0 ≤ n z.1) : GI a n (stepG a n gs z) (zs ++ [z]) (a z.1) := by
 rcases List.eq_nil_or_concat gs with rfl | ⟨gs', g, rfl⟩
 · rw [stepG_nil]
   exact GI.new h hm hn (fun g hg => by simp at hg)
 · rw [List.concat_eq_append] at h ⊢
   rw [stepG_snoc]
   split
   · rename_i hlt
     refine GI.new h hm hn (fun x hx => ?_)
     rcases List.mem_append.1 hx with hx | hx
     · have := (List.pairwise_append.1 h.asc).2.2 x hx g (by simp)
       have := (h.rng g (by simp)).1
       omega
     · rw [List.mem_singleton] at hx; subst hx; exact hlt
   · rename_i hlt
     exact GI.ext h hm hn (by omega)
theorem GI.fold : ∀ (ws : List (α × Bool)) {gs : List (Grp α)} {zs : List (α × Bool)} {m : Int}, GI a n gs zs m → (∀ z ∈ ws, m ≤ a z.1 ∧ 0 ≤ n z.1) → ws.Pairwise (fun x y => a x.1 ≤ a y.1) → ∃ m', GI a n (ws.foldl (stepG a n) gs) (zs ++ ws) m'
 | [], gs, zs, m, h, _, _ => ⟨m, by simpa using h⟩
 | z :: ws, gs, zs, m, h, hw, hp => by
  have q := GI.fold ws (GI.step h (hw z (by simp)).1 (hw z (by simp)).2) (fun x hx => ⟨(List.pairwise_cons.1 hp).1 x hx, (hw x (by simp [hx])).2⟩) (List.pairwise_cons.1 hp).2
  rw [List.append_assoc] at q
  exact q
theorem mrgS_mem : ∀ (k : Nat) (p q : List α), p.length + q.length ≤ k → ∀ z, z ∈ mrgS a p q ↔ (z.1 ∈ p ∧ z.2 = true) ∨ (z.1 ∈ q ∧ z.2 = false) := by
 intro k
 induction k with
 | zero =>
  intro p q hk z
  have h1 : p = [] := List.eq_nil_of_length_eq_zero (by omega)
  have h2 : q = [] := List.eq_nil_of_length_eq_zero (by omega)
  subst h1 h2
  rw [mrgS]; simp
 | succ k ih =>
  intro p q hk z
  match p, q with
  | [], q =>
   rw [mrgS]
   obtain ⟨z1, z2⟩ := z
   simp only [List.mem_map, Prod.mk.injEq, List.not_mem_nil, false_and, false_or]
   exact ⟨fun ⟨y, h1, h2, h3⟩ => by subst h2 h3; exact ⟨h1, rfl⟩, fun ⟨h1, h2⟩ => ⟨z1, h1, rfl, h2.symm⟩⟩
  | x :: p, [] =>
   rw [mrgS]
   obtain ⟨z1, z2⟩ := z
   simp only [List.mem_map, Prod.mk.injEq, List.not_mem_nil, false_and, or_false]
   exact ⟨fun ⟨y, h1, h2, h3⟩ => by subst h2 h3; exact ⟨h1, rfl⟩, fun ⟨h1, h2⟩ => ⟨z1, h1, rfl, h2.symm⟩⟩
  | x :: p, y :: q =>
   rw [mrgS]
   obtain ⟨z1, z2⟩ := z
   split
   · rw [List.mem_cons, ih p (y :: q) (by simp only [List.length_cons] at hk ⊢; omega)]
     simp only [Prod.mk.injEq, List.mem_cons]
     constructor
     · rintro (⟨rfl, rfl⟩ | ⟨h1, h2⟩ | h)
       · exact Or.inl ⟨Or.inl rfl, rfl⟩
       · exact Or.inl ⟨Or.inr h1, h2⟩
       · exact Or.inr h
     · rintro (⟨rfl | h1, h2⟩ | h)
       · exact Or.inl ⟨rfl, h2⟩
       · exact Or.inr (Or.inl ⟨h1, h2⟩)
       · exact Or.inr (Or.inr h)
   · rw [List.mem_cons, ih (x :: p) q (by simp only [List.length_cons] at hk ⊢; omega)]
     simp only [Prod.mk.injEq, List.mem_cons]
     constructor
     · rintro (⟨rfl, rfl⟩ | h | ⟨h1, h2⟩)
       · exact Or.inr ⟨Or.inl rfl, rfl⟩
       · exact Or.inl h
       · exact Or.inr ⟨Or.inr h1, h2⟩
     · rintro (h | ⟨rfl | h1, h2⟩)
       · exact Or.inr (Or.inl h)
       · exact Or.inl ⟨rfl, h2⟩
       · exact Or.inr (Or.inr ⟨h1, h2⟩)
theorem mrgS_asc : ∀ (k : Nat) (p q : List α), p.length + q.length ≤ k → p.Pairwise (fun x y => a x ≤ a y) → q.Pairwise (fun x y => a x ≤ a y) → (mrgS a p q).Pairwise (fun x y => a x.1 ≤ a y.1) := by
 intro k
 induction k with
 | zero =>
  intro p q hk _ _
  have h1 : p = [] := List.eq_nil_of_length_eq_zero (by omega)
  have h2 : q = [] := List.eq_nil_of_length_eq_zero (by omega)
  subst h1 h2
  rw [mrgS]; simp
 | succ k ih =>
  intro p q hk hp hq
  match p, q, hp, hq with
  | [], q, hp, hq => rw [mrgS, List.pairwise_map]; exact hq
  | x :: p, [], hp, hq => rw [mrgS, List.pairwise_map]; exact hp
  | x :: p, y :: q, hp, hq =>
   have px := List.pairwise_cons.1 hp
   have qy := List.pairwise_cons.1 hq
   rw [mrgS]
   split
   · rename_i hle
     rw [List.pairwise_cons]
     refine ⟨fun z hz => ?_, ih p (y :: q) (by simp only [List.length_cons] at hk ⊢; omega) px.2 hq⟩
     rcases (mrgS_mem _ _ _ (Nat.le_refl _) z).1 hz with ⟨h1, _⟩ | ⟨h1, _⟩
     · exact px.1 _ h1
     · rcases List.mem_cons.1 h1 with h1 | h1
       · rw [h1]; exact hle
       · have := qy.1 _ h1; show a x ≤ a z.1; omega
   · rename_i hle
     rw [List.pairwise_cons]
     refine ⟨fun z hz => ?_, ih (x :: p) q (by simp only [List.length_cons] at hk ⊢; omega) hp qy.2⟩
     rcases (mrgS_mem _ _ _ (Nat.le_refl _) z).1 hz with ⟨h1, _⟩ | ⟨h1, _⟩
     · rcases List.mem_cons.1 h1 with h1 | h1
       · rw [h1]; show a y ≤ a x; omega
       · have := px.1 _ h1; show a y ≤ a z.1; omega
     · exact qy.1 _ h1
theorem mrgS_sides : ∀ (k : Nat) (p q : List α), p.length + q.length ≤ k → ((mrgS a p q).filter fun z => z.2).map Prod.fst = p ∧ ((mrgS a p q).filter fun z => !z.2).map Prod.fst = q := by
 intro k
 induction k with
 | zero =>
  intro p q hk
  have h1 : p = [] := List.eq_nil_of_length_eq_zero (by omega)
  have h2 : q = [] := List.eq_nil_of_length_eq_zero (by omega)
  subst h1 h2
  rw [mrgS]; exact ⟨rfl, rfl⟩
 | succ k ih =>
  intro p q hk
  have t1 : ∀ l : List α, (((l.map fun y => (y, true)).filter fun z => z.2).map Prod.fst = l ∧ ((l.map fun y => (y, true)).filter fun z => !z.2).map Prod.fst = []) := fun l => by
   induction l with
   | nil => exact ⟨rfl, rfl⟩
   | cons u l ih => simpa using ih
  have t2 : ∀ l : List α, (((l.map fun y => (y, false)).filter fun z => z.2).map Prod.fst = [] ∧ ((l.map fun y => (y, false)).filter fun z => !z.2).map Prod.fst = l) := fun l => by
   induction l with
   | nil => exact ⟨rfl, rfl⟩
   | cons u l ih => simpa using ih
  match p, q with
  | [], q => rw [mrgS]; exact t2 q
  | x :: p, [] => rw [mrgS]; exact t1 (x :: p)
  | x :: p, y :: q =>
   rw [mrgS]
   split
   · obtain ⟨h1, h2⟩ := ih p (y :: q) (by simp only [List.length_cons] at hk ⊢; omega)
     simp [h1, h2]
   · obtain ⟨h1, h2⟩ := ih (x :: p) q (by simp only [List.length_cons] at hk ⊢; omega)
     simp [h1, h2]
theorem dvdG_ok {p q : List α} (hp : p.Pairwise (fun x y => a x ≤ a y)) (hq : q.Pairwise (fun x y => a x ≤ a y)) (np : ∀ x ∈ p, 0 ≤ a x ∧ 0 ≤ n x) (nq : ∀ x ∈ q, 0 ≤ a x ∧ 0 ≤ n x) :
    ∃ m, GI a n (dvdG a n p q) (mrgS a p q) m := by
 have := GI.fold (mrgS a p q) (GI.start a n 0) (fun z hz => by
  rcases (mrgS_mem _ _ _ (Nat.le_refl _) z).1 hz with ⟨h1, _⟩ | ⟨h1, _⟩
  · exact np _ h1
  · exact nq _ h1) (mrgS_asc _ _ _ (Nat.le_refl _) hp hq)
 rw [List.nil_append] at this
 exact this
end
end Go.Proofs.YtgldjpldldknoaaGreatDoor
/- Plain words: groups that are made one from two, as long as two have an offset in common. No program. -/
set_option linter.unusedSimpArgs false
set_option linter.unusedVariables false
namespace Go.Proofs.YtgldjpldldknoaaGreatDoor
open Go.RowKit
structure Rgp where
 from_ : Int
 to_ : Int
 l : Bool
 r : Bool
def Rgp.ovl (x y : Rgp) : Bool := decide (x.from_ ≤ y.to_) && decide (y.from_ ≤ x.to_)
def Rgp.join (x y : Rgp) : Rgp := ⟨min x.from_ y.from_, max x.to_ y.to_, x.l || y.l, x.r || y.r⟩
section
variable {α : Type} (a n : α → Int)
def Rgp.one (z : α × Bool) : Rgp := ⟨a z.1, a z.1 + n z.1, z.2, !z.2⟩
def Grp.rg (g : Grp α) : Rgp := ⟨g.at_, g.end_, decide (g.left ≠ []), decide (g.right ≠ [])⟩
structure Rgi (all : List Rgp) (zs : List (α × Bool)) : Prop where
 rng : ∀ m ∈ all, m.from_ ≤ m.to_
 has : ∀ z ∈ zs, ∃ m ∈ all, m.from_ ≤ a z.1 ∧ a z.1 + n z.1 ≤ m.to_ ∧ (z.2 = true → m.l = true) ∧ (z.2 = false → m.r = true)
 con : ∀ D, Disj D → (∀ z ∈ zs, InR D (a z.1) (a z.1 + n z.1)) → ∀ m ∈ all, InR D m.from_ m.to_
 ls : ∀ m ∈ all, m.l = true → ∃ z ∈ zs, z.2 = true ∧ m.from_ ≤ a z.1 ∧ a z.1 + n z.1 ≤ m.to_
 rs : ∀ m ∈ all, m.r = true → ∃ z ∈ zs, z.2 = false ∧ m.from_ ≤ a z.1 ∧ a z.1 + n z.1 ≤ m.to_
variable {a n}
theorem Rgi.start {zs : List (α × Bool)} (h0 : ∀ z ∈ zs, 0 ≤ n z.1) : Rgi a n (zs.map (Rgp.one a n)) zs where
 rng := fun m hm => by
  obtain ⟨z, hz, rfl⟩ := List.mem_map.1 hm
  have := h0 z hz
  show a z.1 ≤ a z.1 + n z.1
  omega
 has := fun z hz => ⟨Rgp.one a n z, List.mem_map.2 ⟨z, hz, rfl⟩, Int.le_refl _, Int.le_refl _, fun h => h, fun h => by show (!z.2) = true; rw [h]; rfl⟩
 con := fun D hD hz m hm => by
  obtain ⟨z, h, rfl⟩ := List.mem_map.1 hm
  exact hz z h
 ls := fun m hm hl => by
  obtain ⟨z, h, rfl⟩ := List.mem_map.1 hm
  exact ⟨z, h, hl, Int.le_refl _, Int.le_refl _⟩
 rs := fun m hm hl => by
  obtain ⟨z, h, rfl⟩ := List.mem_map.1 hm
  refine ⟨z, h, ?_, Int.le_refl _, Int.le_refl _⟩
  have hl : (!z.2) = true := hl
  simpa using hl
theorem Rgi.zs {all : List Rgp} {zs zs' : List (α × Bool)} (h : Rgi a n all zs) (e : ∀ z, z ∈ zs' ↔ z ∈ zs) : Rgi a n all zs' where
 rng := h.rng
 has := fun z hz => h.has z ((e z).1 hz)
 con := fun D hD hz m hm => h.con D hD (fun z hz' => hz z ((e z).2 hz')) m hm
 ls := fun m hm hl => by obtain ⟨z, h1, h2⟩ := h.ls m hm hl; exact ⟨z, (e z).2 h1, h2⟩
 rs := fun m hm hl => by obtain ⟨z, h1, h2⟩ := h.rs m hm hl; exact ⟨z, (e z).2 h1, h2⟩
def ApartG (all : List Rgp) : Prop := all.Pairwise fun x y => x.ovl y = false
theorem Rgp.ovl_false {x y : Rgp} (h : x.ovl y = false) : y.to_ < x.from_ ∨ x.to_ < y.from_ := by
 unfold Rgp.ovl at h
 rw [Bool.and_eq_false_iff] at h
 rcases h with h | h
 · have := of_decide_eq_false h; omega
 · have := of_decide_eq_false h; omega
theorem ApartG.eq {all : List Rgp} (h : ApartG all) {x y : Rgp} (hx : x ∈ all) (hy : y ∈ all) (rx : x.from_ ≤ x.to_) (ry : y.from_ ≤ y.to_) (o1 : x.from_ ≤ y.to_) (o2 : y.from_ ≤ x.to_) : x = y := by
 induction all with
 | nil => simp at hx
 | cons u t ih =>
  obtain ⟨h1, h2⟩ := List.pairwise_cons.1 h
  rcases List.mem_cons.1 hx with ex | hx'
  · rcases List.mem_cons.1 hy with ey | hy'
    · rw [ex, ey]
    · subst ex
      have := Rgp.ovl_false (h1 y hy'); omega
  · rcases List.mem_cons.1 hy with ey | hy'
    · subst ey
      have := Rgp.ovl_false (h1 x hx'); omega
    · exact ih h2 hx' hy'
theorem Rgp.ext {x y : Rgp} (h1 : x.from_ = y.from_) (h2 : x.to_ = y.to_) (h3 : x.l = y.l) (h4 : x.r = y.r) : x = y := by
 cases x; cases y
 simp only at h1 h2 h3 h4
 subst h1 h2 h3 h4
 rfl
theorem GI.asc_at {gs : List (Grp α)} {zs : List (α × Bool)} {m : Int} (h : GI a n gs zs m) : gs.Pairwise fun g k => g.at_ < k.at_ ∧ g.end_ < k.at_ :=
 h.asc.imp_of_mem fun hg _ hlt => ⟨by have := (h.rng _ hg).1; omega, hlt⟩
theorem pair_eq {gs : List (Grp α)} (h : gs.Pairwise fun g k => g.end_ < k.at_) (hr : ∀ g ∈ gs, g.at_ ≤ g.end_) {x y : Grp α} (hx : x ∈ gs) (hy : y ∈ gs) (o1 : x.at_ ≤ y.end_) (o2 : y.at_ ≤ x.end_) : x = y := by
 induction gs with
 | nil => simp at hx
 | cons u t ih =>
  obtain ⟨h1, h2⟩ := List.pairwise_cons.1 h
  rcases List.mem_cons.1 hx with ex | hx'
  · rcases List.mem_cons.1 hy with ey | hy'
    · rw [ex, ey]
    · subst ex
      have := h1 y hy'; omega
  · rcases List.mem_cons.1 hy with ey | hy'
    · subst ey
      have := h1 x hx'; omega
    · exact ih h2 (fun g hg => hr g (by simp [hg])) hx' hy'
theorem GI.flag_l {gs : List (Grp α)} {zs : List (α × Bool)} {m : Int} (h : GI a n gs zs m) {g : Grp α} (hg : g ∈ gs) {c : α} (hc : c ∈ g.left) : (c, true) ∈ zs := by
 have : c ∈ gs.flatMap Grp.left := List.mem_flatMap.2 ⟨g, hg, hc⟩
 rw [h.lefts] at this
 obtain ⟨z, hz, e⟩ := List.mem_map.1 this
 obtain ⟨h1, h2⟩ := List.mem_filter.1 hz
 obtain ⟨z1, z2⟩ := z
 simp only at e h2
 subst e h2
 exact h1
theorem GI.flag_r {gs : List (Grp α)} {zs : List (α × Bool)} {m : Int} (h : GI a n gs zs m) {g : Grp α} (hg : g ∈ gs) {c : α} (hc : c ∈ g.right) : (c, false) ∈ zs := by
 have : c ∈ gs.flatMap Grp.right := List.mem_flatMap.2 ⟨g, hg, hc⟩
 rw [h.rights] at this
 obtain ⟨z, hz, e⟩ := List.mem_map.1 this
 obtain ⟨h1, h2⟩ := List.mem_filter.1 hz
 obtain ⟨z1, z2⟩ := z
 simp only [Bool.not_eq_true'] at e h2
 subst e h2
 exact h1
theorem GI.owner_l {gs : List (Grp α)} {zs : List (α × Bool)} {m : Int} (h : GI a n gs zs m) {z : α × Bool} (hz : z ∈ zs) (h0 : 0 ≤ n z.1) (hb : z.2 = true) : ∃ g ∈ gs, z.1 ∈ g.left := by
 have : z.1 ∈ gs.flatMap Grp.left := by
  rw [h.lefts]
  exact List.mem_map.2 ⟨z, List.mem_filter.2 ⟨hz, hb⟩, rfl⟩
 obtain ⟨g, hg, hc⟩ := List.mem_flatMap.1 this
 exact ⟨g, hg, hc⟩
theorem GI.owner_r {gs : List (Grp α)} {zs : List (α × Bool)} {m : Int} (h : GI a n gs zs m) {z : α × Bool} (hz : z ∈ zs) (h0 : 0 ≤ n z.1) (hb : z.2 = false) : ∃ g ∈ gs, z.1 ∈ g.right := by
 have : z.1 ∈ gs.flatMap Grp.right := by
  rw [h.rights]
  exact List.mem_map.2 ⟨z, List.mem_filter.2 ⟨hz, by rw [hb]; rfl⟩, rfl⟩
 obtain ⟨g, hg, hc⟩ := List.mem_flatMap.1 this
 exact ⟨g, hg, hc⟩
theorem Rgi.final {all : List Rgp} {gs : List (Grp α)} {zs : List (α × Bool)} {m : Int} (h : Rgi a n all zs) (g : GI a n gs zs m) (hz : ∀ z ∈ zs, 0 ≤ n z.1) (ha : ApartG all) (t : Rgp) : t ∈ all ↔ t ∈ gs.map Grp.rg := by
 have D1 : Disj (gs.map fun x => (x.at_, x.end_)) := by
  intro d hd e he o1 o2
  obtain ⟨x, hx, rfl⟩ := List.mem_map.1 hd
  obtain ⟨y, hy, rfl⟩ := List.mem_map.1 he
  rw [pair_eq g.asc (fun u hu => (g.rng u hu).1) hx hy o1 o2]
 have D2 : Disj (all.map fun x => (x.from_, x.to_)) := by
  intro d hd e he o1 o2
  obtain ⟨x, hx, rfl⟩ := List.mem_map.1 hd
  obtain ⟨y, hy, rfl⟩ := List.mem_map.1 he
  rw [ha.eq hx hy (h.rng x hx) (h.rng y hy) o1 o2]
 have i1 : ∀ z ∈ zs, InR (gs.map fun x => (x.at_, x.end_)) (a z.1) (a z.1 + n z.1) := fun z hzz => by
  cases hb : z.2
  · obtain ⟨x, hx, hc⟩ := g.owner_r hzz (hz z hzz) hb
    exact ⟨_, List.mem_map.2 ⟨x, hx, rfl⟩, g.inr x hx _ hc⟩
  · obtain ⟨x, hx, hc⟩ := g.owner_l hzz (hz z hzz) hb
    exact ⟨_, List.mem_map.2 ⟨x, hx, rfl⟩, g.inl x hx _ hc⟩
 have i2 : ∀ z ∈ zs, InR (all.map fun x => (x.from_, x.to_)) (a z.1) (a z.1 + n z.1) := fun z hzz => by
  obtain ⟨x, hx, h1, h2, _⟩ := h.has z hzz
  exact ⟨_, List.mem_map.2 ⟨x, hx, rfl⟩, h1, h2⟩
 have c1 := h.con _ D1 i1
 have c2 := g.con _ D2 i2
 -- a member and a group with a common offset are the same
 have same : ∀ x ∈ all, ∀ y ∈ gs, x.from_ ≤ y.end_ → y.at_ ≤ x.to_ → x = y.rg := by
  intro x hx y hy o1 o2
  obtain ⟨d, hd, d1, d2⟩ := c1 x hx
  obtain ⟨y', hy', rfl⟩ := List.mem_map.1 hd
  have rx := h.rng x hx
  have ry := (g.rng y hy).1
  simp only at d1 d2
  have e1 : y' = y := pair_eq g.asc (fun u hu => (g.rng u hu).1) hy' hy (by omega) (by omega)
  subst e1
  obtain ⟨e, he, e1, e2⟩ := c2 y' hy
  obtain ⟨x', hx', rfl⟩ := List.mem_map.1 he
  simp only at e1 e2
  have e3 : x' = x := ha.eq hx' hx (h.rng x' hx') rx (by omega) (by omega)
  subst e3
  refine Rgp.ext (by show _ = y'.at_; omega) (by show _ = y'.end_; omega) ?_ ?_
  · show x'.l = decide (y'.left ≠ [])
    by_cases hl : y'.left = []
    · rw [hl]
      cases hb : x'.l
      · simp
      · obtain ⟨z, z1, z2, z3, z4⟩ := h.ls x' hx hb
        obtain ⟨w, hw, hc⟩ := g.owner_l z1 (hz z z1) z2
        have r1 := g.inl w hw _ hc
        have := hz z z1
        have : w = y' := pair_eq g.asc (fun u hu => (g.rng u hu).1) hw hy (by omega) (by omega)
        subst this
        rw [hl] at hc; simp at hc
    · obtain ⟨c, hc⟩ := List.exists_mem_of_ne_nil _ hl
      have hzz := g.flag_l hy hc
      obtain ⟨v, hv, v1, v2, v3, _⟩ := h.has _ hzz
      have r1 := g.inl y' hy _ hc
      have := hz _ hzz
      simp only at v1 v2 this
      have : v = x' := ha.eq hv hx (h.rng v hv) rx (by omega) (by omega)
      subst this
      rw [v3 rfl, decide_eq_true hl]
  · show x'.r = decide (y'.right ≠ [])
    by_cases hl : y'.right = []
    · rw [hl]
      cases hb : x'.r
      · simp
      · obtain ⟨z, z1, z2, z3, z4⟩ := h.rs x' hx hb
        obtain ⟨w, hw, hc⟩ := g.owner_r z1 (hz z z1) z2
        have r1 := g.inr w hw _ hc
        have := hz z z1
        have : w = y' := pair_eq g.asc (fun u hu => (g.rng u hu).1) hw hy (by omega) (by omega)
        subst this
        rw [hl] at hc; simp at hc
    · obtain ⟨c, hc⟩ := List.exists_mem_of_ne_nil _ hl
      have hzz := g.flag_r hy hc
      obtain ⟨v, hv, v1, v2, _, v3⟩ := h.has _ hzz
      have r1 := g.inr y' hy _ hc
      have := hz _ hzz
      simp only at v1 v2 this
      have : v = x' := ha.eq hv hx (h.rng v hv) rx (by omega) (by omega)
      subst this
      rw [v3 rfl, decide_eq_true hl]
 constructor
 · intro ht
   obtain ⟨d, hd, d1, d2⟩ := c1 t ht
   obtain ⟨y, hy, rfl⟩ := List.mem_map.1 hd
   have := h.rng t ht
   simp only at d1 d2
   exact List.mem_map.2 ⟨y, hy, (same t ht y hy (by omega) (by omega)).symm⟩
 · intro ht
   obtain ⟨y, hy, rfl⟩ := List.mem_map.1 ht
   obtain ⟨e, he, e1, e2⟩ := c2 y hy
   obtain ⟨x, hx, rfl⟩ := List.mem_map.1 he
   have := (g.rng y hy).1
   simp only at e1 e2
   rw [← same x hx y hy (by omega) (by omega)]
   exact hx
theorem Rgi.count {all : List Rgp} {gs : List (Grp α)} {zs : List (α × Bool)} {m : Int} (h : Rgi a n all zs) (g : GI a n gs zs m) (hz : ∀ z ∈ zs, 0 ≤ n z.1) (ha : ApartG all) : all.length = gs.length := by
 have hm := fun t => h.final g hz ha t
 have n1 : all.Nodup := by
  have : all.Pairwise fun x y => x ≠ y := ha.imp_of_mem fun hx hy o e => by
   subst e
   have := Rgp.ovl_false o
   have := h.rng _ hx
   omega
  exact this
 have n2 : (gs.map Grp.rg).Nodup := by
  have : (gs.map Grp.rg).Pairwise fun x y => x ≠ y := by
   rw [List.pairwise_map]
   refine g.asc_at.imp fun o e => ?_
   rename_i x y
   have e2 : x.at_ = y.at_ := congrArg Rgp.from_ e
   omega
  exact this
 have p : all.Perm (gs.map Grp.rg) := (List.perm_ext_iff_of_nodup n1 n2).2 hm
 rw [p.length_eq, List.length_map]
theorem GI.next {gs : List (Grp α)} {zs : List (α × Bool)} {m : Int} (g : GI a n gs zs m) {k : Nat} (hk : k < gs.length) {x : Rgp} (hx : x ∈ gs.map Grp.rg) (hb : ∀ hk0 : 0 < k, gs[k - 1].at_ < x.from_) :
    gs[k].at_ ≤ x.from_ ∧ (x.from_ = gs[k].at_ → x = gs[k].rg) := by
 obtain ⟨y, hy, rfl⟩ := List.mem_map.1 hx
 obtain ⟨j, hj, rfl⟩ := List.getElem_of_mem hy
 have P := List.pairwise_iff_getElem.1 g.asc_at
 show gs[k].at_ ≤ gs[j].at_ ∧ (gs[j].at_ = gs[k].at_ → _)
 rcases Nat.lt_trichotomy j k with c | c | c
 · exfalso
   have h1 := hb (by omega)
   have h1 : gs[k - 1].at_ < gs[j].at_ := h1
   rcases Nat.lt_or_ge j (k - 1) with c2 | c2
   · have := (P j (k - 1) hj (by omega) c2).1; omega
   · have : j = k - 1 := by omega
     subst this
     omega
 · subst c; exact ⟨Int.le_refl _, fun _ => rfl⟩
 · have := (P k j hk hj c).1
   exact ⟨by omega, fun e => by omega⟩
theorem GI.behind {gs : List (Grp α)} {zs : List (α × Bool)} {m : Int} (g : GI a n gs zs m) {k : Nat} (hk : k < gs.length) (hk0 : 0 < k) : gs[k - 1].at_ < gs[k].at_ :=
 ((List.pairwise_iff_getElem.1 g.asc_at) (k - 1) k (by omega) hk (by omega)).1
end
end Go.Proofs.YtgldjpldldknoaaGreatDoor
/- Plain words: what becomes of a range by the changes of a side. No program. -/
set_option linter.unusedSimpArgs false
set_option linter.unusedVariables false
namespace Go.Proofs.YtgldjpldldknoaaGreatDoor
open Go.RowKit
def sdG (t : List Int) (e : Int) : Int → List PC → List Int
 | f, [] => (t.drop f.toNat).take (e - f).toNat
 | f, c :: r => (t.drop f.toNat).take (c.at_ - f).toNat ++ (c.text ++ sdG t e (c.at_ + c.n) r)
def within (e : Int) : Int → List PC → Prop
 | f, [] => f ≤ e
 | f, c :: r => f ≤ c.at_ ∧ 0 ≤ c.n ∧ within e (c.at_ + c.n) r
theorem within.le {e : Int} : ∀ {ps : List PC} {f : Int}, within e f ps → f ≤ e
 | [], f, h => h
 | c :: r, f, ⟨h1, h2, h3⟩ => by have := h3.le; omega
theorem sdG_len (t : List Int) {e : Int} (he : e ≤ t.length) : ∀ (ps : List PC) (f : Int), 0 ≤ f → within e f ps → ((sdG t e f ps).length : Int) = e - f - delP ps + insP ps
 | [], f, h0, h => by
  have h : f ≤ e := h
  simp only [sdG, List.length_take, List.length_drop, delP, insP]
  omega
 | c :: r, f, h0, ⟨h1, h2, h3⟩ => by
  have ih := sdG_len t he r (c.at_ + c.n) (by omega) h3
  have := h3.le
  simp only [sdG, List.length_append, List.length_take, List.length_drop, delP, insP]
  omega
theorem smN_del : ∀ ps : List PC, smN PC.n ps = delP ps
 | [] => rfl
 | c :: r => by show c.n + smN PC.n r = c.n + delP r; rw [smN_del r]
theorem insP_append : ∀ a b : List PC, insP (a ++ b) = insP a + insP b
 | [], b => by simp [insP]
 | c :: a, b => by simp only [List.cons_append, insP, insP_append a b]; omega
theorem insP_mem {gs : List (Grp PC)} : ∀ {g : Grp PC}, g ∈ gs → insP g.left ≤ insP (gs.flatMap Grp.left) ∧ insP g.right ≤ insP (gs.flatMap Grp.right) := by
 induction gs with
 | nil => intro g h; simp at h
 | cons x gs ih =>
  intro g h
  rw [List.flatMap_cons, List.flatMap_cons, insP_append, insP_append]
  rcases List.mem_cons.1 h with rfl | h
  · omega
  · have := ih h; omega
theorem sides_len {t : List Int} {g : Grp PC} (he : g.end_ ≤ t.length) (h0 : 0 ≤ g.at_) (hl : within g.end_ g.at_ g.left) (hr : within g.end_ g.at_ g.right) (hs : g.end_ - g.at_ ≤ smN PC.n g.left + smN PC.n g.right) :
    (sdG t g.end_ g.at_ g.left).length + (sdG t g.end_ g.at_ g.right).length ≤ t.length + insP g.left + insP g.right := by
 have a := sdG_len t he g.left g.at_ h0 hl
 have b := sdG_len t he g.right g.at_ h0 hr
 rw [smN_del, smN_del] at hs
 omega
theorem validP_asc {length : Int} : ∀ {ps : List PC} {last : Int}, validP length last ps = true → ps.Pairwise (fun x y => x.at_ + x.n < y.at_) ∧ (∀ x ∈ ps, 0 ≤ x.at_ ∧ 0 ≤ x.n ∧ x.at_ + x.n ≤ length ∧ last < x.at_)
 | [], last, _ => ⟨List.Pairwise.nil, fun x h => by simp at h⟩
 | c :: r, last, h => by
  unfold validP at h
  rw [Bool.and_eq_true] at h
  obtain ⟨t1, t2, t3, t4, t5⟩ := fitP_true h.1
  obtain ⟨i1, i2⟩ := validP_asc h.2
  refine ⟨List.pairwise_cons.2 ⟨fun x hx => (i2 x hx).2.2.2, i1⟩, fun x hx => ?_⟩
  rcases List.mem_cons.1 hx with rfl | hx
  · exact ⟨t1, t2, t3, t4⟩
  · have := i2 x hx; exact ⟨this.1, this.2.1, this.2.2.1, by omega⟩
theorem within_of {e : Int} : ∀ {ps : List PC} {f : Int}, ps.Pairwise (fun x y => x.at_ + x.n < y.at_) → (∀ x ∈ ps, f ≤ x.at_ ∧ 0 ≤ x.n ∧ x.at_ + x.n ≤ e) → f ≤ e → within e f ps
 | [], f, _, _, h => h
 | c :: r, f, hp, hx, h => by
  obtain ⟨h1, h2⟩ := List.pairwise_cons.1 hp
  have := hx c (by simp)
  exact ⟨this.1, this.2.1, within_of h2 (fun x m => ⟨by have := h1 x m; omega, (hx x (by simp [m])).2⟩) this.2.2⟩
theorem filter_grp {α : Type} {a n : α → Int} (f : Grp α → List α) : ∀ {gs : List (Grp α)}, gs.Pairwise (fun g h => g.end_ < h.at_) → (∀ g ∈ gs, ∀ c ∈ f g, g.at_ ≤ a c ∧ a c ≤ g.end_) → (∀ g ∈ gs, g.at_ ≤ g.end_) → ∀ g ∈ gs,
    (gs.flatMap f).filter (fun c => decide (g.at_ ≤ a c ∧ a c ≤ g.end_)) = f g := by
 intro gs
 induction gs with
 | nil => intro _ _ _ g h; simp at h
 | cons x gs ih =>
  intro hp hin hr g hg
  obtain ⟨p1, p2⟩ := List.pairwise_cons.1 hp
  rw [List.flatMap_cons, List.filter_append]
  rcases List.mem_cons.1 hg with rfl | hg
  · have e1 : (f g).filter (fun c => decide (g.at_ ≤ a c ∧ a c ≤ g.end_)) = f g := List.filter_eq_self.2 fun c hc => decide_eq_true (hin g (by simp) c hc)
    have e2 : (gs.flatMap f).filter (fun c => decide (g.at_ ≤ a c ∧ a c ≤ g.end_)) = [] := List.filter_eq_nil_iff.2 fun c hc => by
     obtain ⟨y, hy, hcy⟩ := List.mem_flatMap.1 hc
     have h1 := p1 y hy
     have h2 := hin y (by simp [hy]) c hcy
     simp only [decide_eq_true_eq]
     omega
    rw [e1, e2, List.append_nil]
  · have e1 : (f x).filter (fun c => decide (g.at_ ≤ a c ∧ a c ≤ g.end_)) = [] := List.filter_eq_nil_iff.2 fun c hc => by
      have h1 := p1 g hg
      have h2 := hin x (by simp) c hc
      simp only [decide_eq_true_eq]
      omega
    rw [e1, List.nil_append]
    exact ih p2 (fun y hy => hin y (by simp [hy])) (fun y hy => hr y (by simp [hy])) g hg
structure GrOk (t : List Int) (p q : List PC) (gs : List (Grp PC)) : Prop where
 gi : ∃ m, GI PC.at_ PC.n gs (mrgS PC.at_ p q) m
 lefts : gs.flatMap Grp.left = p
 rights : gs.flatMap Grp.right = q
 inside : ∀ g ∈ gs, 0 ≤ g.at_ ∧ g.at_ ≤ g.end_ ∧ g.end_ ≤ t.length ∧ within g.end_ g.at_ g.left ∧ within g.end_ g.at_ g.right
 fl : ∀ g ∈ gs, p.filter (fun c => decide (g.at_ ≤ c.at_ ∧ c.at_ ≤ g.end_)) = g.left
 fr : ∀ g ∈ gs, q.filter (fun c => decide (g.at_ ≤ c.at_ ∧ c.at_ ≤ g.end_)) = g.right
 short : ∀ g ∈ gs, (sdG t g.end_ g.at_ g.left).length + (sdG t g.end_ g.at_ g.right).length ≤ t.length + insP p + insP q
theorem sub_pair {α : Type} {R : α → α → Prop} {f : Grp α → List α} : ∀ {gs : List (Grp α)}, (gs.flatMap f).Pairwise R → ∀ g ∈ gs, (f g).Pairwise R := by
 intro gs
 induction gs with
 | nil => intro _ g h; simp at h
 | cons x gs ih =>
  intro h g hg
  rw [List.flatMap_cons, List.pairwise_append] at h
  rcases List.mem_cons.1 hg with rfl | hg
  · exact h.1
  · exact ih h.2.1 g hg
theorem groups_ok {t : List Int} {p q : List PC} (hp : validP t.length (-1) p = true) (hq : validP t.length (-1) q = true) : GrOk t p q (dvdG PC.at_ PC.n p q) := by
 obtain ⟨p1, p2⟩ := validP_asc hp
 obtain ⟨q1, q2⟩ := validP_asc hq
 have sp : p.Pairwise fun x y => x.at_ ≤ y.at_ := p1.imp_of_mem fun hx _ h => by have := (p2 _ hx).2.1; omega
 have sq : q.Pairwise fun x y => x.at_ ≤ y.at_ := q1.imp_of_mem fun hx _ h => by have := (q2 _ hx).2.1; omega
 obtain ⟨m, G⟩ := dvdG_ok (a := PC.at_) (n := PC.n) sp sq (fun x hx => ⟨(p2 x hx).1, (p2 x hx).2.1⟩) (fun x hx => ⟨(q2 x hx).1, (q2 x hx).2.1⟩)
 generalize dvdG PC.at_ PC.n p q = gs at G
 have el : gs.flatMap Grp.left = p := by rw [G.lefts, (mrgS_sides _ _ _ (Nat.le_refl _)).1]
 have er : gs.flatMap Grp.right = q := by rw [G.rights, (mrgS_sides _ _ _ (Nat.le_refl _)).2]
 have whole : ∀ g ∈ gs, 0 ≤ g.at_ ∧ g.end_ ≤ t.length := fun g hg => by
  obtain ⟨d, hd, d1, d2⟩ := G.con [(0, (t.length : Int))] (fun d hd e he _ _ => by rw [List.mem_singleton.1 hd, List.mem_singleton.1 he]) (fun z hz => by
   refine ⟨_, List.mem_singleton.2 rfl, ?_, ?_⟩
   · rcases (mrgS_mem _ _ _ (Nat.le_refl _) z).1 hz with ⟨h1, _⟩ | ⟨h1, _⟩
     · exact (p2 _ h1).1
     · exact (q2 _ h1).1
   · rcases (mrgS_mem _ _ _ (Nat.le_refl _) z).1 hz with ⟨h1, _⟩ | ⟨h1, _⟩
     · exact (p2 _ h1).2.2.1
     · exact (q2 _ h1).2.2.1) g hg
  rw [List.mem_singleton] at hd
  subst hd
  exact ⟨d1, d2⟩
 have inside : ∀ g ∈ gs, 0 ≤ g.at_ ∧ g.at_ ≤ g.end_ ∧ g.end_ ≤ t.length ∧ within g.end_ g.at_ g.left ∧ within g.end_ g.at_ g.right := fun g hg => by
  have w := whole g hg
  have r := (G.rng g hg).1
  refine ⟨w.1, r, w.2, ?_, ?_⟩
  · exact within_of (sub_pair (f := Grp.left) (by rw [el]; exact p1) g hg) (fun x hx => by
      have := G.inl g hg x hx
      have hx2 : x ∈ gs.flatMap Grp.left := List.mem_flatMap.2 ⟨g, hg, hx⟩
      rw [el] at hx2
      exact ⟨this.1, (p2 x hx2).2.1, this.2⟩) r
  · exact within_of (sub_pair (f := Grp.right) (by rw [er]; exact q1) g hg) (fun x hx => by
      have := G.inr g hg x hx
      have hx2 : x ∈ gs.flatMap Grp.right := List.mem_flatMap.2 ⟨g, hg, hx⟩
      rw [er] at hx2
      exact ⟨this.1, (q2 x hx2).2.1, this.2⟩) r
 refine ⟨⟨m, G⟩, el, er, inside, fun g hg => ?_, fun g hg => ?_, fun g hg => ?_⟩
 · have := filter_grp (a := PC.at_) (n := PC.n) Grp.left G.asc (fun g hg c hc => by
     have h1 := G.inl g hg c hc
     have hx2 : c ∈ gs.flatMap Grp.left := List.mem_flatMap.2 ⟨g, hg, hc⟩
     rw [el] at hx2
     have := (p2 c hx2).2.1
     exact ⟨h1.1, by omega⟩) (fun g hg => (G.rng g hg).1) g hg
   rwa [el] at this
 · have := filter_grp (a := PC.at_) (n := PC.n) Grp.right G.asc (fun g hg c hc => by
     have h1 := G.inr g hg c hc
     have hx2 : c ∈ gs.flatMap Grp.right := List.mem_flatMap.2 ⟨g, hg, hc⟩
     rw [er] at hx2
     have := (q2 c hx2).2.1
     exact ⟨h1.1, by omega⟩) (fun g hg => (G.rng g hg).1) g hg
   rwa [er] at this
 · obtain ⟨i1, i2, i3, i4, i5⟩ := inside g hg
   have := sides_len (t := t) i3 i1 i4 i5 (G.siz g hg)
   have b := insP_mem (gs := gs) hg
   rw [el, er] at b
   omega
theorem sdG_whole (t : List Int) {f e : Int} {c : PC} {r : List PC} (h : within e f (c :: r)) (h0 : 0 ≤ f) (h1 : c.at_ = f) (h2 : c.at_ + c.n = e) (hr : r.Pairwise (fun x y => x.at_ + x.n < y.at_)) (hc : ∀ x ∈ r, c.at_ + c.n < x.at_) : sdG t e f (c :: r) = c.text ∧ r = [] := by
 have hr0 : r = [] := by
  cases r with
  | nil => rfl
  | cons x r =>
   obtain ⟨_, _, h3⟩ := h
   obtain ⟨h4, h5, h6⟩ := h3
   have := h6.le
   have := hc x (by simp)
   omega
 subst hr0
 refine ⟨?_, rfl⟩
 show (t.drop f.toNat).take (c.at_ - f).toNat ++ (c.text ++ (t.drop (c.at_ + c.n).toNat).take (e - (c.at_ + c.n)).toNat) = _
 rw [show (c.at_ - f).toNat = 0 by omega, show (e - (c.at_ + c.n)).toNat = 0 by omega]
 simp
end Go.Proofs.YtgldjpldldknoaaGreatDoor
/- Plain words: the merged patch and the conflicts. No program. -/
set_option linter.unusedSimpArgs false
set_option linter.unusedVariables false
namespace Go.Proofs.YtgldjpldldknoaaGreatDoor
open Go.RowKit
def sdl (t : List Int) (g : Grp PC) : List Int := sdG t g.end_ g.at_ g.left
def sdr (t : List Int) (g : Grp PC) : List Int := sdG t g.end_ g.at_ g.right
def isC (t : List Int) (g : Grp PC) : Bool := decide (g.left ≠ []) && decide (g.right ≠ []) && decide (sdl t g ≠ sdr t g)
def chP (t : List Int) (g : Grp PC) : PC := ⟨g.at_, g.end_ - g.at_, if g.left ≠ [] then sdl t g else sdr t g⟩
structure CfP where
 at_ : Int
 n : Int
 left : List Int
 right : List Int
def cfP (t : List Int) (g : Grp PC) : CfP := ⟨g.at_, g.end_ - g.at_, sdl t g, sdr t g⟩
def mgO (t : List Int) (gs : List (Grp PC)) : List PC := (gs.filter fun g => !isC t g).map (chP t)
def mgC (t : List Int) (gs : List (Grp PC)) : List CfP := (gs.filter fun g => isC t g).map (cfP t)
theorem mgO_snoc (t : List Int) (gs : List (Grp PC)) (g : Grp PC) : mgO t (gs ++ [g]) = mgO t gs ++ (if isC t g = true then [] else [chP t g]) := by
 unfold mgO
 rw [List.filter_append, List.map_append]
 cases h : isC t g <;> simp [h]
theorem mgC_snoc (t : List Int) (gs : List (Grp PC)) (g : Grp PC) : mgC t (gs ++ [g]) = mgC t gs ++ (if isC t g = true then [cfP t g] else []) := by
 unfold mgC
 rw [List.filter_append, List.map_append]
 cases h : isC t g <;> simp [h]
end Go.Proofs.YtgldjpldldknoaaGreatDoor
/- Plain words: the groups of changes in a store, and the pieces of a side's text. No program. -/
set_option linter.unusedSimpArgs false
set_option linter.unusedVariables false
namespace Go.Proofs.YtgldjpldldknoaaGreatDoor
open Go.RowKit
def ChR1 (L : List Ent) (c : Chg) (p : PC) : Prop := c.at_ = p.at_ ∧ c.n = p.n ∧ ∃ d, BalZ L c.text p.text d
theorem PChg.append {L : List Ent} : ∀ {cs : List Chg} {ps : List PC}, PChg L cs ps → ∀ {ds : List Chg} {qs : List PC}, PChg L ds qs → PChg L (cs ++ ds) (ps ++ qs)
 | [], [], _, _, _, h => h
 | _ :: cs, _ :: ps, h, _, _, g => ⟨h.1, PChg.append h.2 g⟩
def All2 {α β : Type} (R : α → β → Prop) : List α → List β → Prop
 | [], [] => True
 | x :: xs, y :: ys => R x y ∧ All2 R xs ys
 | _, _ => False
theorem All2.len {α β : Type} {R : α → β → Prop} : ∀ {xs : List α} {ys : List β}, All2 R xs ys → xs.length = ys.length
 | [], [], _ => rfl
 | _ :: xs, _ :: ys, h => by simp [All2.len h.2]
theorem All2.snoc {α β : Type} {R : α → β → Prop} : ∀ {xs : List α} {ys : List β}, All2 R xs ys → ∀ {x : α} {y : β}, R x y → All2 R (xs ++ [x]) (ys ++ [y])
 | [], [], _, _, _, h => ⟨h, trivial⟩
 | _ :: xs, _ :: ys, h, _, _, g => ⟨h.1, All2.snoc h.2 g⟩
theorem All2.get {α β : Type} {R : α → β → Prop} : ∀ {xs : List α} {ys : List β}, All2 R xs ys → ∀ (i : Nat) (h1 : i < xs.length) (h2 : i < ys.length), R xs[i] ys[i]
 | _ :: xs, _ :: ys, h, 0, _, _ => h.1
 | _ :: xs, _ :: ys, h, i + 1, h1, h2 => by
  have := All2.get h.2 i (by simpa using h1) (by simpa using h2)
  simpa using this
theorem All2.mono {α β : Type} {R R' : α → β → Prop} (hR : ∀ x y, R x y → R' x y) : ∀ {xs : List α} {ys : List β}, All2 R xs ys → All2 R' xs ys
 | [], [], _ => trivial
 | _ :: xs, _ :: ys, h => ⟨hR _ _ h.1, All2.mono hR h.2⟩
theorem All2.end_ {α β : Type} {R : α → β → Prop} : ∀ {xs : List α} {ys : List β} {x : α}, All2 R (xs ++ [x]) ys → ∃ ys' y, ys = ys' ++ [y] ∧ All2 R xs ys' ∧ R x y
 | [], [y], x, h => ⟨[], y, rfl, trivial, h.1⟩
 | [], _ :: _ :: _, _, h => h.2.elim
 | z :: xs, y :: ys, x, h => by
  obtain ⟨ys', y', e, h1, h2⟩ := All2.end_ (xs := xs) h.2
  exact ⟨y :: ys', y', by rw [e]; rfl, ⟨h.1, h1⟩, h2⟩
structure GRel (L : List Ent) (g : Grp Chg) (h : Grp PC) : Prop where
 at_ : g.at_ = h.at_
 end_ : g.end_ = h.end_
 left : PChg L g.left h.left
 right : PChg L g.right h.right
def ZRel (L : List Ent) (x : Chg × Bool) (y : PC × Bool) : Prop := ChR1 L x.1 y.1 ∧ x.2 = y.2
theorem mrgS_rel {L : List Ent} : ∀ (k : Nat) (cs ds : List Chg) (ps qs : List PC), cs.length + ds.length ≤ k → PChg L cs ps → PChg L ds qs → All2 (ZRel L) (mrgS Chg.at_ cs ds) (mrgS PC.at_ ps qs) := by
 have t : ∀ (b : Bool) (cs : List Chg) (ps : List PC), PChg L cs ps → All2 (ZRel L) (cs.map fun y => (y, b)) (ps.map fun y => (y, b)) := by
  intro b cs
  induction cs with
  | nil => intro ps h; cases ps with
   | nil => trivial
   | cons p ps => exact h.elim
  | cons c cs ih => intro ps h; cases ps with
   | nil => exact h.elim
   | cons p ps => exact ⟨⟨h.1, rfl⟩, ih ps h.2⟩
 intro k
 induction k with
 | zero =>
  intro cs ds ps qs hk h1 h2
  obtain rfl : cs = [] := List.eq_nil_of_length_eq_zero (by omega)
  obtain rfl : ds = [] := List.eq_nil_of_length_eq_zero (by omega)
  obtain rfl : ps = [] := List.eq_nil_of_length_eq_zero (by rw [← h1.len]; rfl)
  obtain rfl : qs = [] := List.eq_nil_of_length_eq_zero (by rw [← h2.len]; rfl)
  rw [mrgS, mrgS]; trivial
 | succ k ih =>
  intro cs ds ps qs hk h1 h2
  match cs, ps, h1 with
  | [], [], _ => rw [mrgS, mrgS]; exact t _ _ _ h2
  | c :: cs, p :: ps, h1 =>
   match ds, qs, h2 with
   | [], [], _ => rw [mrgS, mrgS]; exact t _ (c :: cs) (p :: ps) h1
   | d :: ds, q :: qs, h2 =>
    have e1 := h1.1.1
    have e2 := h2.1.1
    rw [mrgS, mrgS, e1, e2]
    by_cases hc : p.at_ ≤ q.at_
    · rw [if_pos hc, if_pos hc]
      exact ⟨⟨h1.1, rfl⟩, ih cs (d :: ds) ps (q :: qs) (by simp only [List.length_cons] at hk ⊢; omega) h1.2 h2⟩
    · rw [if_neg hc, if_neg hc]
      exact ⟨⟨h2.1, rfl⟩, ih (c :: cs) ds (p :: ps) qs (by simp only [List.length_cons] at hk ⊢; omega) h1 h2.2⟩
theorem GRel.ext_ {L : List Ent} {g : Grp Chg} {h : Grp PC} (r : GRel L g h) {x : Chg × Bool} {y : PC × Bool} (z : ZRel L x y) : GRel L (g.ext Chg.at_ Chg.n x) (h.ext PC.at_ PC.n y) := by
 obtain ⟨⟨z1, z2, d, zb⟩, z3⟩ := z
 obtain ⟨x1, x2⟩ := x
 obtain ⟨y1, y2⟩ := y
 simp only at z1 z2 z3 zb
 subst z3
 refine ⟨r.at_, ?_, ?_, ?_⟩
 · show max g.end_ (x1.at_ + x1.n) = max h.end_ (y1.at_ + y1.n); rw [r.end_, z1, z2]
 · cases x2
   · exact r.left
   · exact r.left.snoc z1 z2 zb
 · cases x2
   · exact r.right.snoc z1 z2 zb
   · exact r.right
theorem GRel.new_ {L : List Ent} {x : Chg × Bool} {y : PC × Bool} (z : ZRel L x y) : GRel L (Grp.new Chg.at_ Chg.n x) (Grp.new PC.at_ PC.n y) :=
 GRel.ext_ (g := ⟨x.1.at_, x.1.at_ + x.1.n, [], []⟩) (h := ⟨y.1.at_, y.1.at_ + y.1.n, [], []⟩) ⟨z.1.1, by show x.1.at_ + x.1.n = y.1.at_ + y.1.n; rw [z.1.1, z.1.2.1], trivial, trivial⟩ z
theorem stepG_rel {L : List Ent} {gs : List (Grp Chg)} {hs : List (Grp PC)} (r : All2 (GRel L) gs hs) {x : Chg × Bool} {y : PC × Bool} (z : ZRel L x y) : All2 (GRel L) (stepG Chg.at_ Chg.n gs x) (stepG PC.at_ PC.n hs y) := by
 rcases List.eq_nil_or_concat gs with rfl | ⟨gs', g, e⟩
 · obtain rfl : hs = [] := List.eq_nil_of_length_eq_zero (by rw [← r.len]; rfl)
   rw [stepG_nil, stepG_nil]
   exact ⟨GRel.new_ z, trivial⟩
 · rw [List.concat_eq_append] at e
   subst e
   obtain ⟨hs', h, rfl, r1, r2⟩ := r.end_
   rw [stepG_snoc, stepG_snoc, r2.end_, z.1.1]
   split
   · exact (r1.snoc r2).snoc (GRel.new_ z)
   · exact r1.snoc (r2.ext_ z)
theorem foldG_rel {L : List Ent} : ∀ (xs : List (Chg × Bool)) (ys : List (PC × Bool)) (gs : List (Grp Chg)) (hs : List (Grp PC)), All2 (ZRel L) xs ys → All2 (GRel L) gs hs → All2 (GRel L) (xs.foldl (stepG Chg.at_ Chg.n) gs) (ys.foldl (stepG PC.at_ PC.n) hs)
 | [], [], _, _, _, r => r
 | x :: xs, y :: ys, gs, hs, z, r => foldG_rel xs ys _ _ z.2 (stepG_rel r z.1)
theorem dvdG_rel {L : List Ent} {cs ds : List Chg} {ps qs : List PC} (h1 : PChg L cs ps) (h2 : PChg L ds qs) : All2 (GRel L) (dvdG Chg.at_ Chg.n cs ds) (dvdG PC.at_ PC.n ps qs) :=
 foldG_rel _ _ _ _ (mrgS_rel _ _ _ _ _ (Nat.le_refl _) h1 h2) trivial
theorem GRel.more {L L' : List Ent} {n : Nat} (hg : Grows L L' n) (hd : DOk L) {g : Grp Chg} {h : Grp PC} (r : GRel L g h) : GRel L' g h := ⟨r.at_, r.end_, r.left.more hg hd, r.right.more hg hd⟩
def sdT (t : List Int) : Int → List PC → List (List Int)
 | _, [] => []
 | at_, c :: r => (if at_ < c.at_ then [cutL t at_ (c.at_ - at_)] else []) ++ (c.text :: sdT t (c.at_ + c.n) r)
theorem sdT_one (t : List Int) (at_ : Int) (c : PC) : ((if at_ < c.at_ then [cutL t at_ (c.at_ - at_)] else []) : List (List Int)).flatten = (t.drop at_.toNat).take (c.at_ - at_).toNat := by
 split
 · simp [cutL]
 · rw [show (c.at_ - at_).toNat = 0 by omega]; simp
theorem sdT_flat (t : List Int) (e : Int) : ∀ (ps : List PC) (f : Int), (sdT t f (ps ++ [⟨e, 0, []⟩])).flatten = sdG t e f ps
 | [], f => by
  show ((if f < e then [cutL t f (e - f)] else []) ++ ([] :: [])).flatten = (t.drop f.toNat).take (e - f).toNat
  have := sdT_one t f ⟨e, 0, []⟩
  simp only at this
  rw [List.flatten_append, this]
  simp
 | c :: r, f => by
  show ((if f < c.at_ then [cutL t f (c.at_ - f)] else []) ++ (c.text :: sdT t (c.at_ + c.n) (r ++ [⟨e, 0, []⟩]))).flatten = (t.drop f.toNat).take (c.at_ - f).toNat ++ (c.text ++ sdG t e (c.at_ + c.n) r)
  rw [List.flatten_append, sdT_one, List.flatten_cons, sdT_flat t e r]
end Go.Proofs.YtgldjpldldknoaaGreatDoor
/- The keys of a store's rules (plain): which rules are signature rules, what a row of the table may hold; letters are unique. -/
set_option linter.unusedSimpArgs false
set_option linter.unusedVariables false
namespace Go.Proofs.YtgldjpldldknoaaGreatDoor
open Go.RowKit
structure KRow where
 key : Int
 lev : Int
 kn : Bool
deriving DecidableEq, Inhabited
def KRow.vals (r : KRow) : List Value := [.int .u64 r.key, .int .i64 r.lev, .bool r.kn]
def mixI (k x y : Int) : Int := ((k + (1234567890123456789 * x % PP + 987654321987654321 * y % PP) % PP) % PP) ^ 17 % PP
theorem mixI_rng (k x y : Int) : 0 ≤ mixI k x y ∧ mixI k x y < 2305843009213693951 := pp_lt _
def fitB (c : Nat) (x y : Int) : Bool := if c = 122 then x == y else (x.toNat.testBit (c / 2) == (c % 2 == 1)) && (y.toNat.testBit (c / 2) == (c % 2 == 0))
def fitN (x y : Int) : Nat → Nat → Option Nat
 | 0, _ => none
 | f + 1, c => if fitB c x y then some c else fitN x y f (c + 1)
def aftI (low x y : Int) : Int :=
 match fitN x y (123 - (low / 2).toNat % 123) ((low / 2).toNat % 123) with
 | some n => 2 * (low / 2 + 1 + n - ((low / 2).toNat % 123 : Nat))
 | none => match fitN x y 123 0 with
  | some n => 2 * (low / 2 + 1 + n - ((low / 2).toNat % 123 : Nat) + 123)
  | none => 0
def klF : Nat → List Ent → Int → Int × Int
 | 0, _, _ => (0, -1)
 | k + 1, L, id =>
  if (entAt L id).rule.kind = 1 then (mixI 1 (entAt L id).rule.letter 0, 0)
  else if (entAt L id).rule.kind = 2 then
   (mixI 2 (klF k L (entAt L id).rule.left).1 (klF k L (entAt L id).rule.right).1,
    if (entAt L id).rule.left ≠ (entAt L id).rule.right ∧ 0 ≤ (klF k L (entAt L id).rule.left).2 ∧ 0 ≤ (klF k L (entAt L id).rule.right).2 then
     aftI (max (klF k L (entAt L id).rule.left).2 (klF k L (entAt L id).rule.right).2) (klF k L (entAt L id).rule.left).1 (klF k L (entAt L id).rule.right).1 else -1)
  else (mixI 3 (klF k L (entAt L id).rule.left).1 (entAt L id).rule.times,
   if 0 ≤ (klF k L (entAt L id).rule.left).2 ∧ (klF k L (entAt L id).rule.left).2 % 2 = 0 then (klF k L (entAt L id).rule.left).2 + 1 else -1)
def klev (L : List Ent) (id : Int) : Int := (klF id.toNat L id).2
def kkey (L : List Ent) (id : Int) : Int := (klF id.toNat L id).1
def rowOk (L : List Ent) (id : Int) (r : KRow) : Prop := r.key = kkey L id ∧ r.lev = klev L id
def TabOk (L : List Ent) (T : List KRow) : Prop := ∀ (i : Nat) (h : i < T.length), (T[i].kn = true → 1 ≤ i ∧ i ≤ L.length ∧ rowOk L i T[i]) ∧ (T[i].kn = false → T[i] = ⟨0, 0, false⟩)
theorem klF_fuel {L : List Ent} (hD : DOk L) : ∀ (k : Nat) (id : Int), isKnown L id → id ≠ 0 → id.toNat ≤ k → klF k L id = klF id.toNat L id := by
 intro k
 induction k using Nat.strongRecOn with
 | _ k ih =>
  intro id hk h0 hle
  have h1 := hk.1
  have hpos : 1 ≤ id.toNat := by omega
  obtain ⟨m, hm⟩ : ∃ m, k = m + 1 := ⟨k - 1, by omega⟩
  obtain ⟨n, hn⟩ : ∃ n, id.toNat = n + 1 := ⟨id.toNat - 1, by omega⟩
  subst hm
  rw [hn]
  have ch : ∀ c : Int, 1 ≤ c → c < id → klF m L c = klF n L c := by
   intro c c1 c2
   have hc : isKnown L c := ⟨by omega, by have := hk.2; omega⟩
   rw [ih m (by omega) c hc (by omega) (by omega), ih n (by omega) c hc (by omega) (by omega)]
  unfold klF
  rcases hD.at id hk h0 with ⟨g1, _⟩ | ⟨g1, g2, _⟩ | ⟨g1, g2, _⟩
  · rw [if_pos g1, if_pos g1]
  · rw [ch _ g2.1 g2.2.1, ch _ g2.2.2.1 g2.2.2.2]
  · have n1 : ¬ (entAt L id).rule.kind = 1 := by rw [g1]; decide
    have n2 : ¬ (entAt L id).rule.kind = 2 := by rw [g1]; decide
    rw [if_neg n1, if_neg n2, if_neg n1, if_neg n2, ch _ g2.1 g2.2]
theorem kl_letter {L : List Ent} {id : Int} (h0 : 1 ≤ id) (h : (entAt L id).rule.kind = 1) : kkey L id = mixI 1 (entAt L id).rule.letter 0 ∧ klev L id = 0 := by
 unfold kkey klev
 obtain ⟨n, hn⟩ : ∃ n, id.toNat = n + 1 := ⟨id.toNat - 1, by omega⟩
 rw [hn]; unfold klF; rw [if_pos h]; exact ⟨rfl, rfl⟩
theorem kl_pair {L : List Ent} (hD : DOk L) {id : Int} (hk : isKnown L id) (h0 : id ≠ 0) (h : (entAt L id).rule.kind = 2) :
    kkey L id = mixI 2 (kkey L (entAt L id).rule.left) (kkey L (entAt L id).rule.right) ∧
    klev L id = if (entAt L id).rule.left ≠ (entAt L id).rule.right ∧ 0 ≤ klev L (entAt L id).rule.left ∧ 0 ≤ klev L (entAt L id).rule.right then
     aftI (max (klev L (entAt L id).rule.left) (klev L (entAt L id).rule.right)) (kkey L (entAt L id).rule.left) (kkey L (entAt L id).rule.right) else -1 := by
 have h1 := hk.1
 have h2 := hk.2
 rcases hD.at id hk h0 with ⟨g1, _⟩ | ⟨_, g2, _⟩ | ⟨g1, _⟩
 · rw [h] at g1; exact absurd g1 (by decide)
 · obtain ⟨n, hn⟩ : ∃ n, id.toNat = n + 1 := ⟨id.toNat - 1, by omega⟩
   have ea := klF_fuel hD n (entAt L id).rule.left ⟨by omega, by omega⟩ (by omega) (by omega)
   have eb := klF_fuel hD n (entAt L id).rule.right ⟨by omega, by omega⟩ (by omega) (by omega)
   have hw : klF id.toNat L id = (mixI 2 (kkey L (entAt L id).rule.left) (kkey L (entAt L id).rule.right), if (entAt L id).rule.left ≠ (entAt L id).rule.right ∧ 0 ≤ klev L (entAt L id).rule.left ∧ 0 ≤ klev L (entAt L id).rule.right then
       aftI (max (klev L (entAt L id).rule.left) (klev L (entAt L id).rule.right)) (kkey L (entAt L id).rule.left) (kkey L (entAt L id).rule.right) else -1) := by
    rw [hn]
    show klF (n + 1) L id = _
    rw [klF, if_neg (by rw [h]; decide), if_pos h, ea, eb]
    rfl
   unfold kkey klev at *
   rw [hw]
   exact ⟨rfl, rfl⟩
 · rw [h] at g1; exact absurd g1 (by decide)
theorem kl_power {L : List Ent} (hD : DOk L) {id : Int} (hk : isKnown L id) (h0 : id ≠ 0) (h : (entAt L id).rule.kind = 3) :
    kkey L id = mixI 3 (kkey L (entAt L id).rule.left) (entAt L id).rule.times ∧
    klev L id = if 0 ≤ klev L (entAt L id).rule.left ∧ klev L (entAt L id).rule.left % 2 = 0 then klev L (entAt L id).rule.left + 1 else -1 := by
 have h1 := hk.1
 have h2 := hk.2
 rcases hD.at id hk h0 with ⟨g1, _⟩ | ⟨g1, _⟩ | ⟨_, g2, _⟩
 · rw [h] at g1; exact absurd g1 (by decide)
 · rw [h] at g1; exact absurd g1 (by decide)
 · obtain ⟨n, hn⟩ : ∃ n, id.toNat = n + 1 := ⟨id.toNat - 1, by omega⟩
   have ea := klF_fuel hD n (entAt L id).rule.left ⟨by omega, by omega⟩ (by omega) (by omega)
   have hw : klF id.toNat L id = (mixI 3 (kkey L (entAt L id).rule.left) (entAt L id).rule.times, if 0 ≤ klev L (entAt L id).rule.left ∧ klev L (entAt L id).rule.left % 2 = 0 then klev L (entAt L id).rule.left + 1 else -1) := by
    rw [hn]
    show klF (n + 1) L id = _
    rw [klF, if_neg (by rw [h]; decide), if_neg (by rw [h]; decide), ea]
    rfl
   unfold kkey klev at *
   rw [hw]
   exact ⟨rfl, rfl⟩
theorem kl_more {L : List Ent} (hD : DOk L) (M : List Ent) (hD' : DOk (L ++ M)) : ∀ (n : Nat) (id : Int), id.toNat ≤ n → isKnown L id → id ≠ 0 → kkey (L ++ M) id = kkey L id ∧ klev (L ++ M) id = klev L id := by
 intro n
 induction n with
 | zero => intro id h hk h0; have := hk.1; omega
 | succ n ih =>
  intro id h hk h0
  have h1 := hk.1
  have h2 := hk.2
  have e := entAt_append L M id hk
  have hk' : isKnown (L ++ M) id := ⟨hk.1, by rw [List.length_append]; omega⟩
  rcases hD.at id hk h0 with ⟨g1, _⟩ | ⟨g1, g2, _⟩ | ⟨g1, g2, _⟩
  · have a := kl_letter (L := L) (by omega) g1
    have b := kl_letter (L := L ++ M) (id := id) (by omega) (by rw [e]; exact g1)
    rw [a.1, a.2, b.1, b.2, e]; exact ⟨rfl, rfl⟩
  · have a := kl_pair hD hk h0 g1
    have b := kl_pair hD' hk' h0 (by rw [e]; exact g1)
    have i1 := ih _ (by omega) (⟨by omega, by omega⟩ : isKnown L (entAt L id).rule.left) (by omega)
    have i2 := ih _ (by omega) (⟨by omega, by omega⟩ : isKnown L (entAt L id).rule.right) (by omega)
    rw [a.1, a.2, b.1, b.2, e, i1.1, i1.2, i2.1, i2.2]; exact ⟨rfl, rfl⟩
  · have a := kl_power hD hk h0 g1
    have b := kl_power hD' hk' h0 (by rw [e]; exact g1)
    have i1 := ih _ (by omega) (⟨by omega, by omega⟩ : isKnown L (entAt L id).rule.left) (by omega)
    rw [a.1, a.2, b.1, b.2, e, i1.1, i1.2]; exact ⟨rfl, rfl⟩
theorem kkey_rng {L : List Ent} (hD : DOk L) {id : Int} (hk : isKnown L id) (h0 : id ≠ 0) : 0 ≤ kkey L id ∧ kkey L id < 2305843009213693951 := by
 have h1 := hk.1
 rcases hD.at id hk h0 with ⟨g1, _⟩ | ⟨g1, g2, _⟩ | ⟨g1, g2, _⟩
 · rw [(kl_letter (by omega) g1).1]; exact mixI_rng _ _ _
 · rw [(kl_pair hD hk h0 g1).1]; exact mixI_rng _ _ _
 · rw [(kl_power hD hk h0 g1).1]; exact mixI_rng _ _ _
theorem TabOk.more {L : List Ent} (hD : DOk L) {M : List Ent} (hD' : DOk (L ++ M)) {T : List KRow} (h : TabOk L T) : TabOk (L ++ M) T := by
 intro i hi
 refine ⟨fun hk => ?_, (h i hi).2⟩
 obtain ⟨h1, h2, h3, h4⟩ := (h i hi).1 hk
 have e := kl_more hD M hD' _ (i : Int) (Nat.le_refl _) ⟨by omega, by omega⟩ (by omega)
 exact ⟨h1, by rw [List.length_append]; omega, h3.trans e.1.symm, h4.trans e.2.symm⟩
theorem TabOk.nil (L : List Ent) : TabOk L [] := fun i h => by simp at h
end Go.Proofs.YtgldjpldldknoaaGreatDoor
/- Levels (plain): the least pair level above a level that two keys fit; what a pair level and a run level leave. -/
set_option linter.unusedSimpArgs false
set_option linter.unusedVariables false
namespace Go.Proofs.YtgldjpldldknoaaGreatDoor
open Go.RowKit
theorem fitN_some {x y : Int} : ∀ (f c n : Nat), fitN x y f c = some n → c ≤ n ∧ n < c + f ∧ fitB n x y = true ∧ ∀ k, c ≤ k → k < n → fitB k x y = false
 | 0, c, n => by intro h; simp [fitN] at h
 | f + 1, c, n => by
  intro h
  unfold fitN at h
  cases hc : fitB c x y with
  | true =>
   rw [hc, if_pos rfl] at h
   simp only [Option.some.injEq] at h
   subst h
   exact ⟨Nat.le_refl _, by omega, hc, fun k h1 h2 => by omega⟩
  | false =>
   rw [hc, if_neg (by decide)] at h
   obtain ⟨h1, h2, h3, h4⟩ := fitN_some f (c + 1) n h
   refine ⟨by omega, by omega, h3, fun k k1 k2 => ?_⟩
   by_cases e : k = c
   · rw [e]; exact hc
   · exact h4 k (by omega) k2
theorem fitN_none {x y : Int} : ∀ (f c : Nat), fitN x y f c = none → ∀ k, c ≤ k → k < c + f → fitB k x y = false
 | 0, c => by intro _ k h1 h2; omega
 | f + 1, c => by
  intro h k k1 k2
  unfold fitN at h
  cases hc : fitB c x y with
  | true => rw [hc, if_pos rfl] at h; cases h
  | false =>
   rw [hc, if_neg (by decide)] at h
   by_cases e : k = c
   · rw [e]; exact hc
   · exact fitN_none f (c + 1) h k (by omega) (by omega)
theorem bit_differs {x y : Nat} (hx : x < 2305843009213693952) (hy : y < 2305843009213693952) (h : x ≠ y) : ∃ b, b < 61 ∧ x.testBit b ≠ y.testBit b := by
 have : ¬ ∀ b, b < 61 → x.testBit b = y.testBit b := by
  intro hall
  apply h
  apply Nat.eq_of_testBit_eq
  intro i
  by_cases hi : i < 61
  · exact hall i hi
  · have e : (2305843009213693952 : Nat) = 2 ^ 61 := by decide
    have hp : 2 ^ 61 ≤ 2 ^ i := Nat.pow_le_pow_right (by decide) (by omega)
    rw [Nat.testBit_lt_two_pow (by omega : x < 2 ^ i), Nat.testBit_lt_two_pow (by omega : y < 2 ^ i)]
 rw [Classical.not_forall] at this
 obtain ⟨b, hb⟩ := this
 rw [Classical.not_imp] at hb
 exact ⟨b, hb.1, hb.2⟩
theorem fit_ex {x y : Int} (hx : 0 ≤ x) (hx1 : x < 2305843009213693951) (hy : 0 ≤ y) (hy1 : y < 2305843009213693951) : ∃ c, c < 123 ∧ fitB c x y = true := by
 by_cases h : x = y
 · exact ⟨122, by omega, by unfold fitB; rw [if_pos rfl, h]; simp⟩
 · obtain ⟨b, hb, hd⟩ := bit_differs (x := x.toNat) (y := y.toNat) (by omega) (by omega) (by omega)
   cases h1 : x.toNat.testBit b with
   | true =>
    have h2 : y.toNat.testBit b = false := by rw [h1] at hd; cases h3 : y.toNat.testBit b with | true => rw [h3] at hd; exact absurd rfl hd | false => rfl
    refine ⟨2 * b + 1, by omega, ?_⟩
    unfold fitB
    rw [if_neg (by omega), show (2 * b + 1) / 2 = b by omega, show (2 * b + 1) % 2 = 1 by omega, h1, h2]
    rfl
   | false =>
    have h2 : y.toNat.testBit b = true := by rw [h1] at hd; cases h3 : y.toNat.testBit b with | true => rfl | false => rw [h3] at hd; exact absurd rfl hd
    refine ⟨2 * b, by omega, ?_⟩
    unfold fitB
    rw [if_neg (by omega), show (2 * b) / 2 = b by omega, show (2 * b) % 2 = 0 by omega, h1, h2]
    rfl
def fitL (l x y : Int) : Prop := 2 ≤ l ∧ l % 2 = 0 ∧ fitB ((l / 2 - 1).toNat % 123) x y = true
theorem aftI_spec {low x y : Int} (hl : 0 ≤ low) (hx : 0 ≤ x) (hx1 : x < 2305843009213693951) (hy : 0 ≤ y) (hy1 : y < 2305843009213693951) :
    low < aftI low x y ∧ aftI low x y ≤ low + 492 ∧ fitL (aftI low x y) x y ∧ ∀ l, low < l → l < aftI low x y → ¬ fitL l x y := by
 obtain ⟨c0, hc0, hf0⟩ := fit_ex hx hx1 hy hy1
 have hq : ((low / 2).toNat : Int) = low / 2 := by omega
 generalize hqq : (low / 2).toNat = q at *
 have hlq : low / 2 = (q : Int) := hq.symm
 unfold aftI
 rw [hqq, hlq]
 cases h1 : fitN x y (123 - q % 123) (q % 123) with
 | some n =>
  obtain ⟨g1, g2, g3, g4⟩ := fitN_some _ _ _ h1
  dsimp only
  refine ⟨by omega, by omega, ⟨by omega, by omega, ?_⟩, ?_⟩
  · rw [show ((2 * ((q : Int) + 1 + n - (q % 123 : Nat))) / 2 - 1).toNat % 123 = n by omega]
    exact g3
  · rintro l k1 k2 ⟨k3, k4, k5⟩
    have := g4 ((l / 2 - 1).toNat % 123) (by omega) (by omega)
    rw [this] at k5; cases k5
 | none =>
  have g := fitN_none _ _ h1
  dsimp only
  cases h2 : fitN x y 123 0 with
  | none =>
   have := fitN_none _ _ h2 c0 (by omega) (by omega)
   rw [this] at hf0; cases hf0
  | some n =>
   obtain ⟨g1, g2, g3, g4⟩ := fitN_some _ _ _ h2
   have hn : n < q % 123 := by
    rcases Nat.lt_or_ge n (q % 123) with k | k
    · exact k
    · have := g n k (by omega)
      rw [this] at g3; cases g3
   dsimp only
   refine ⟨by omega, by omega, ⟨by omega, by omega, ?_⟩, ?_⟩
   · rw [show ((2 * ((q : Int) + 1 + n - (q % 123 : Nat) + 123)) / 2 - 1).toNat % 123 = n by omega]
     exact g3
   · rintro l k1 k2 ⟨k3, k4, k5⟩
     by_cases k : (l / 2 - 1).toNat - q < 123 - q % 123
     · have := g ((l / 2 - 1).toNat % 123) (by omega) (by omega)
       rw [this] at k5; cases k5
     · have := g4 ((l / 2 - 1).toNat % 123) (by omega) (by omega)
       rw [this] at k5; cases k5
theorem aftI_eq {low x y l : Int} (hl : 0 ≤ low) (hx : 0 ≤ x) (hx1 : x < 2305843009213693951) (hy : 0 ≤ y) (hy1 : y < 2305843009213693951)
    (h1 : low < l) (h2 : fitL l x y) (h3 : ∀ k, low < k → k < l → ¬ fitL k x y) : aftI low x y = l := by
 obtain ⟨a1, _, a2, a3⟩ := aftI_spec hl hx hx1 hy hy1
 by_cases c : aftI low x y < l
 · exact absurd a2 (h3 _ a1 c)
 · by_cases d : l < aftI low x y
   · exact absurd h2 (a3 _ h1 d)
   · omega
end Go.Proofs.YtgldjpldldknoaaGreatDoor
/- Levels (plain): what a pair level and a run level leave of a sequence. -/
set_option linter.unusedSimpArgs false
set_option linter.unusedVariables false
namespace Go.Proofs.YtgldjpldldknoaaGreatDoor
open Go.RowKit
theorem known_more {L : List Ent} {id : Int} (h : isKnown L id) (M : List Ent) : isKnown (L ++ M) id := ⟨h.1, by have := h.2; rw [List.length_append]; omega⟩
def Adj (R : Int → Int → Prop) : List Int → Prop
 | [] => True
 | [_] => True
 | x :: y :: t => R x y ∧ Adj R (y :: t)
theorem Adj.tail {R : Int → Int → Prop} {x : Int} : ∀ {l : List Int}, Adj R (x :: l) → Adj R l
 | [], _ => trivial
 | _ :: _, h => h.2
theorem Adj.imp {R S : Int → Int → Prop} : ∀ {l : List Int}, (∀ x ∈ l, ∀ y ∈ l, R x y → S x y) → Adj R l → Adj S l
 | [], _, _ => trivial
 | [_], _, _ => trivial
 | x :: y :: t, hi, h => ⟨hi x (by simp) y (by simp) h.1, Adj.imp (fun a ha b hb => hi a (by simp [List.mem_cons] at ha ⊢; exact .inr ha) b (by simp [List.mem_cons] at hb ⊢; exact .inr hb)) h.2⟩
def txts (L : List Ent) (ids : List Int) : List Int := (ids.map (txt L)).flatten
theorem txts_cons (L : List Ent) (x : Int) (l : List Int) : txts L (x :: l) = txt L x ++ txts L l := by simp [txts]
structure SeqI (L : List Ent) (l : Int) (ids : List Int) : Prop where
 kn : ∀ u ∈ ids, isKnown L u ∧ u ≠ 0
 lv : ∀ u ∈ ids, 0 ≤ klev L u ∧ klev L u < l
 nf : Adj (fun u v => ∀ k, max (klev L u) (klev L v) < k → k < l → ¬ fitL k (kkey L u) (kkey L v)) ids
 eq : Adj (fun u v => u = v → l % 2 = 1 ∧ klev L u = l - 1) ids
theorem SeqI.tail {L : List Ent} {l x : Int} {ids : List Int} (h : SeqI L l (x :: ids)) : SeqI L l ids :=
 ⟨fun u hu => h.kn u (List.mem_cons_of_mem _ hu), fun u hu => h.lv u (List.mem_cons_of_mem _ hu), h.nf.tail, h.eq.tail⟩
theorem SeqI.more {L : List Ent} {l : Int} {ids : List Int} (h : SeqI L l ids) (hD : DOk L) {M : List Ent} (hD' : DOk (L ++ M)) : SeqI (L ++ M) l ids := by
 have e : ∀ u ∈ ids, kkey (L ++ M) u = kkey L u ∧ klev (L ++ M) u = klev L u := fun u hu => kl_more hD M hD' _ u (Nat.le_refl _) (h.kn u hu).1 (h.kn u hu).2
 refine ⟨fun u hu => ⟨known_more (h.kn u hu).1 M, (h.kn u hu).2⟩, fun u hu => by rw [(e u hu).2]; exact h.lv u hu, ?_, ?_⟩
 · refine h.nf.imp (fun u hu v hv hr k => ?_)
   rw [(e u hu).1, (e u hu).2, (e v hv).1, (e v hv).2]
   exact hr k
 · refine h.eq.imp (fun u hu v hv hr huv => ?_)
   rw [(e u hu).2]
   exact hr huv
theorem txts_more {L : List Ent} (hD : DOk L) (M : List Ent) {ids : List Int} (h : ∀ u ∈ ids, isKnown L u ∧ u ≠ 0) : txts (L ++ M) ids = txts L ids := by
 unfold txts
 congr 1
 exact List.map_congr_left (fun u hu => txt_append hD M (h u hu).1)
structure Gu (L L' : List Ent) (n : Nat) : Prop where
 gr : Grows L L' n
 uq : Uq L'
theorem Gu.refl {L : List Ent} (h : SOk L) (d : DOk L) (u : Uq L) : Gu L L 0 := ⟨Grows.refl h d, u⟩
theorem Gu.trans {A B C : List Ent} {m n k : Nat} (h : Gu A B m) (g : Gu B C n) (hk : m + n ≤ k) : Gu A C k := ⟨h.gr.trans g.gr hk, g.uq⟩
theorem Gu.le {A B : List Ent} {m n : Nat} (h : Gu A B m) (hk : m ≤ n) : Gu A B n := ⟨h.gr.le hk, h.uq⟩
theorem pair_new {L : List Ent} (hS : SOk L) (hD : DOk L) (hU : Uq L) {x y : Int} (hx : isKnown L x) (hy : isKnown L y) (x0 : x ≠ 0) (y0 : y ≠ 0) (hm : (txt L x).length + (txt L y).length ≤ 1152921504606846976) :
    Gu L (addL L (pairEnt L x y)) 1 ∧ isKnown (addL L (pairEnt L x y)) (addI L (pairEnt L x y)) ∧ addI L (pairEnt L x y) ≠ 0 ∧
    txt (addL L (pairEnt L x y)) (addI L (pairEnt L x y)) = txt L x ++ txt L y ∧ entAt (addL L (pairEnt L x y)) (addI L (pairEnt L x y)) = pairEnt L x y ∧
    (x ≠ y → 0 ≤ klev L x → 0 ≤ klev L y → klev (addL L (pairEnt L x y)) (addI L (pairEnt L x y)) = aftI (max (klev L x) (klev L y)) (kkey L x) (kkey L y)) := by
 have l1 := txt_len hD hS _ x (Nat.le_refl _) hx
 have l2 := txt_len hD hS _ y (Nat.le_refl _) hy
 have s1 := hS.pair x y hx hy x0 y0 (by omega)
 have d1 := hD.pair x y hx hy x0 y0
 have k1 := addI_known L (pairEnt L x y)
 have e1 := ent_pair hD x y
 obtain ⟨M, hM⟩ := addL_ext L (pairEnt L x y)
 have hk : (entAt (addL L (pairEnt L x y)) (addI L (pairEnt L x y))).rule.kind = 2 := by rw [e1]; rfl
 have hl : (entAt (addL L (pairEnt L x y)) (addI L (pairEnt L x y))).rule.left = x := by rw [e1]; rfl
 have hr : (entAt (addL L (pairEnt L x y)) (addI L (pairEnt L x y))).rule.right = y := by rw [e1]; rfl
 refine ⟨⟨⟨⟨M, hM⟩, (addL_len _ _).2, s1, d1, fun u => u.pair x y⟩, hU.pair x y⟩, k1.1, k1.2, ?_, e1, ?_⟩
 · rw [txt_pair d1 k1.1 k1.2 hk, hl, hr, hM, txt_append hD M hx, txt_append hD M hy]
 · intro hxy a b
   have h1 := (kl_pair d1 k1.1 k1.2 hk).2
   rw [hl, hr] at h1
   have ex : kkey (addL L (pairEnt L x y)) x = kkey L x ∧ klev (addL L (pairEnt L x y)) x = klev L x := by rw [hM] at d1 ⊢; exact kl_more hD M d1 _ x (Nat.le_refl _) hx x0
   have ey : kkey (addL L (pairEnt L x y)) y = kkey L y ∧ klev (addL L (pairEnt L x y)) y = klev L y := by rw [hM] at d1 ⊢; exact kl_more hD M d1 _ y (Nat.le_refl _) hy y0
   rw [h1, ex.1, ex.2, ey.1, ey.2, if_pos ⟨hxy, a, b⟩]
theorem pow_new {L : List Ent} (hS : SOk L) (hD : DOk L) (hU : Uq L) {x : Int} {k : Nat} (hx : isKnown L x) (x0 : x ≠ 0) (hk2 : 2 ≤ k) (hm : (txt L x).length * k ≤ 1152921504606846976) :
    Gu L (addL L (powEnt L x k)) 1 ∧ isKnown (addL L (powEnt L x k)) (addI L (powEnt L x k)) ∧ addI L (powEnt L x k) ≠ 0 ∧
    txt (addL L (powEnt L x k)) (addI L (powEnt L x k)) = reps (txt L x) k ∧ entAt (addL L (powEnt L x k)) (addI L (powEnt L x k)) = powEnt L x k ∧
    (0 ≤ klev L x → klev L x % 2 = 0 → klev (addL L (powEnt L x k)) (addI L (powEnt L x k)) = klev L x + 1) := by
 have l1 := txt_len hD hS _ x (Nat.le_refl _) hx
 have s1 := hS.pow x k hx x0 (by omega) (by rw [← l1, ← Int.natCast_mul]; omega)
 have d1 := hD.pow x k hx x0
 have k1 := addI_known L (powEnt L x k)
 have e1 := ent_pow hD x k
 obtain ⟨M, hM⟩ := addL_ext L (powEnt L x k)
 have hk : (entAt (addL L (powEnt L x k)) (addI L (powEnt L x k))).rule.kind = 3 := by rw [e1]; rfl
 have hl : (entAt (addL L (powEnt L x k)) (addI L (powEnt L x k))).rule.left = x := by rw [e1]; rfl
 have ht : (entAt (addL L (powEnt L x k)) (addI L (powEnt L x k))).rule.times = (k : Int) := by rw [e1]; rfl
 refine ⟨⟨⟨⟨M, hM⟩, (addL_len _ _).2, s1, d1, fun u => u.pw x k (by omega)⟩, hU.pw x k (by omega)⟩, k1.1, k1.2, ?_, e1, ?_⟩
 · rw [txt_pow d1 k1.1 k1.2 hk, hl, ht, hM, txt_append hD M hx]; rfl
 · intro a b
   have h1 := (kl_power d1 k1.1 k1.2 hk).2
   rw [hl] at h1
   have ex : kkey (addL L (powEnt L x k)) x = kkey L x ∧ klev (addL L (powEnt L x k)) x = klev L x := by rw [hM] at d1 ⊢; exact kl_more hD M d1 _ x (Nat.le_refl _) hx x0
   rw [h1, ex.2, if_pos ⟨a, b⟩]
def prL (c : Nat) : List Ent → List Int → List Ent × List Int
 | L, [] => (L, [])
 | L, [x] => (L, [x])
 | L, x :: y :: t =>
  if fitB c (kkey L x) (kkey L y) = true then ((prL c (addL L (pairEnt L x y)) t).1, addI L (pairEnt L x y) :: (prL c (addL L (pairEnt L x y)) t).2)
  else ((prL c L (y :: t)).1, x :: (prL c L (y :: t)).2)
termination_by _ l => l.length
structure Left (L : List Ent) (ids : List Int) (l : Int) (L' : List Ent) (out : List Int) : Prop where
 gu : Gu L L' (ids.length - out.length)
 seq : SeqI L' (l + 1) out
 text : txts L' out = txts L ids
 len : out.length ≤ ids.length
theorem prL_ok {c : Nat} {l : Int} (hl : 2 ≤ l) (hl2 : l % 2 = 0) (hc : c = (l / 2 - 1).toNat % 123) : ∀ (n : Nat) (ids : List Int) (L : List Ent), ids.length ≤ n → SOk L → DOk L → Uq L → SeqI L l ids → (txts L ids).length ≤ 1152921504606846976 →
    Left L ids l (prL c L ids).1 (prL c L ids).2 ∧ (∀ x t, ids = x :: t → ∃ h s, (prL c L ids).2 = h :: s ∧ (h = x ∨ klev (prL c L ids).1 h = l)) := by
 intro n
 induction n with
 | zero =>
  intro ids L hn hS hD hU hI ht
  have : ids = [] := List.eq_nil_of_length_eq_zero (by omega)
  subst this
  rw [prL]
  exact ⟨⟨Gu.refl hS hD hU, ⟨fun u hu => by simp at hu, fun u hu => by simp at hu, trivial, trivial⟩, rfl, by simp⟩, fun x t h => by cases h⟩
 | succ n ih =>
  intro ids L hn hS hD hU hI ht
  match ids, hn, hI, ht with
  | [], hn, hI, ht =>
   rw [prL]
   exact ⟨⟨Gu.refl hS hD hU, ⟨fun u hu => by simp at hu, fun u hu => by simp at hu, trivial, trivial⟩, rfl, by simp⟩, fun x t h => by cases h⟩
  | [x], hn, hI, ht =>
   rw [prL]
   exact ⟨⟨Gu.refl hS hD hU, ⟨hI.kn, fun u hu => ⟨(hI.lv u hu).1, by have := (hI.lv u hu).2; show klev L u < l + 1; omega⟩, trivial, trivial⟩, rfl, by simp⟩, fun x' t h => by
    cases h; exact ⟨_, _, rfl, .inl rfl⟩⟩
  | x :: y :: t, hn, hI, ht =>
   have kx := hI.kn x (by simp)
   have ky := hI.kn y (by simp)
   have lx := hI.lv x (by simp)
   have ly := hI.lv y (by simp)
   have rx := kkey_rng hD kx.1 kx.2
   have ry := kkey_rng hD ky.1 ky.2
   have hne : x ≠ y := fun e => by have := (hI.eq.1 e).1; omega
   rw [txts_cons, txts_cons, List.length_append, List.length_append] at ht
   cases hf : fitB c (kkey L x) (kkey L y) with
   | true =>
    obtain ⟨g1, g2, g3, g4, g5, g6⟩ := pair_new hS hD hU kx.1 ky.1 kx.2 ky.2 (by omega)
    have hlev : klev (addL L (pairEnt L x y)) (addI L (pairEnt L x y)) = l := by
     rw [g6 hne lx.1 ly.1]
     exact aftI_eq (by omega) rx.1 rx.2 ry.1 ry.2 (by omega) ⟨hl, hl2, by rw [← hc]; exact hf⟩ (fun k k1 k2 => hI.nf.1 k k1 k2)
    rw [prL, if_pos hf]
    generalize addI L (pairEnt L x y) = i at *
    generalize addL L (pairEnt L x y) = L1 at *
    obtain ⟨M, hM⟩ := g1.gr.ext
    have hI1 : SeqI L1 l t := by
     have := g1.gr.dok
     rw [hM] at this ⊢
     exact hI.tail.tail.more hD this
    have ht1 : txts L1 t = txts L t := by rw [hM]; exact txts_more hD M hI.tail.tail.kn
    obtain ⟨q, qh⟩ := ih t L1 (by simp at hn; omega) g1.gr.sok g1.gr.dok g1.uq hI1 (by rw [ht1]; omega)
    have hq := q.len
    obtain ⟨N, hN⟩ := q.gu.gr.ext
    have hi : kkey (prL c L1 t).1 i = kkey L1 i ∧ klev (prL c L1 t).1 i = klev L1 i := by
     have := q.gu.gr.dok
     rw [hN] at this ⊢
     exact kl_more g1.gr.dok N this _ i (Nat.le_refl _) g2 g3
    have hti : txt (prL c L1 t).1 i = txt L x ++ txt L y := by rw [hN, txt_append g1.gr.dok N g2, g4]
    have hki : isKnown (prL c L1 t).1 i := by rw [hN]; exact known_more g2 N
    refine ⟨⟨g1.trans q.gu (by simp only [List.length_cons]; omega), ⟨?_, ?_, ?_, ?_⟩, ?_, by simp only [List.length_cons]; omega⟩, fun x' t' h => ?_⟩
    · intro u hu
      rcases List.mem_cons.1 hu with e | hu
      · rw [e]; exact ⟨hki, g3⟩
      · exact q.seq.kn u hu
    · intro u hu
      rcases List.mem_cons.1 hu with e | hu
      · rw [e, hi.2, hlev]; omega
      · exact q.seq.lv u hu
    · cases hout : (prL c L1 t).2 with
      | nil => trivial
      | cons h s =>
       refine ⟨fun k k1 k2 => ?_, by have := q.seq.nf; rwa [hout] at this⟩
       rw [hi.2, hlev] at k1
       omega
    · cases hout : (prL c L1 t).2 with
      | nil => trivial
      | cons h s => exact ⟨fun e => ⟨by omega, by rw [hi.2, hlev]; omega⟩, by have := q.seq.eq; rwa [hout] at this⟩
    · rw [txts_cons, hti, q.text, ht1, txts_cons, txts_cons, List.append_assoc]
    · exact ⟨i, _, rfl, .inr (hi.2.trans hlev)⟩
   | false =>
    rw [prL, if_neg (by rw [hf]; decide)]
    obtain ⟨q, qh⟩ := ih (y :: t) L (by simp at hn ⊢; omega) hS hD hU hI.tail (by rw [txts_cons, List.length_append]; omega)
    obtain ⟨h, s, hout, hh⟩ := qh y t rfl
    obtain ⟨N, hN⟩ := q.gu.gr.ext
    have hx' : kkey (prL c L (y :: t)).1 x = kkey L x ∧ klev (prL c L (y :: t)).1 x = klev L x := by
     have := q.gu.gr.dok
     rw [hN] at this ⊢
     exact kl_more hD N this _ x (Nat.le_refl _) kx.1 kx.2
    have hy' : kkey (prL c L (y :: t)).1 y = kkey L y ∧ klev (prL c L (y :: t)).1 y = klev L y := by
     have := q.gu.gr.dok
     rw [hN] at this ⊢
     exact kl_more hD N this _ y (Nat.le_refl _) ky.1 ky.2
    have htx : txt (prL c L (y :: t)).1 x = txt L x := by rw [hN]; exact txt_append hD N kx.1
    have hkx : isKnown (prL c L (y :: t)).1 x := by rw [hN]; exact known_more kx.1 N
    have hql := q.len
    refine ⟨⟨q.gu.le (by simp only [List.length_cons] at hql ⊢; omega), ⟨?_, ?_, ?_, ?_⟩, ?_, by simp only [List.length_cons] at hql ⊢; omega⟩, fun x' t' e => ⟨x, _, rfl, .inl (by cases e; rfl)⟩⟩
    · intro u hu
      rcases List.mem_cons.1 hu with e | hu
      · rw [e]; exact ⟨hkx, kx.2⟩
      · exact q.seq.kn u hu
    · intro u hu
      rcases List.mem_cons.1 hu with e | hu
      · rw [e, hx'.2]; omega
      · exact q.seq.lv u hu
    · have hs := q.seq.nf
      rw [hout] at hs ⊢
      refine ⟨fun k k1 k2 => ?_, hs⟩
      rcases hh with hh | hh
      · rw [hh] at k1 ⊢
        rw [hx'.2, hy'.2] at k1
        rw [hx'.1, hy'.1]
        by_cases e : k = l
        · rintro ⟨_, _, k5⟩
          rw [e, ← hc, hf] at k5
          cases k5
        · exact hI.nf.1 k k1 (by omega)
      · rw [hh] at k1
        omega
    · have hs := q.seq.eq
      rw [hout] at hs ⊢
      refine ⟨fun e => ?_, hs⟩
      exfalso
      rcases hh with hh | hh
      · exact hne (e.trans hh)
      · rw [← e, hx'.2] at hh
        omega
    · rw [txts_cons, htx, q.text, ← txts_cons]
theorem prL_same {c : Nat} : ∀ (n : Nat) (ids : List Int) (L : List Ent), ids.length ≤ n → (prL c L ids).2.length ≤ ids.length ∧
    ((prL c L ids).2.length = ids.length → prL c L ids = (L, ids) ∧ Adj (fun u v => fitB c (kkey L u) (kkey L v) = false) ids) := by
 intro n
 induction n with
 | zero =>
  intro ids L hn
  have : ids = [] := List.eq_nil_of_length_eq_zero (by omega)
  subst this
  rw [prL]
  exact ⟨Nat.le_refl _, fun _ => ⟨rfl, trivial⟩⟩
 | succ n ih =>
  intro ids L hn
  match ids, hn with
  | [], hn => rw [prL]; exact ⟨Nat.le_refl _, fun _ => ⟨rfl, trivial⟩⟩
  | [x], hn => rw [prL]; exact ⟨Nat.le_refl _, fun _ => ⟨rfl, trivial⟩⟩
  | x :: y :: t, hn =>
   cases hf : fitB c (kkey L x) (kkey L y) with
   | true =>
    rw [prL, if_pos hf]
    have := (ih t (addL L (pairEnt L x y)) (by simp at hn; omega)).1
    simp only [List.length_cons]
    exact ⟨by omega, fun h => by omega⟩
   | false =>
    rw [prL, if_neg (by rw [hf]; decide)]
    have := ih (y :: t) L (by simp at hn ⊢; omega)
    simp only [List.length_cons] at this ⊢
    refine ⟨by omega, fun h => ?_⟩
    obtain ⟨k1, k2⟩ := this.2 (by omega)
    rw [k1]
    exact ⟨rfl, hf, k2⟩
def rle : List Int → List (Int × Nat)
 | [] => []
 | x :: l => match rle l with
  | [] => [(x, 1)]
  | (y, k) :: g => if x = y then (y, k + 1) :: g else (x, 1) :: (y, k) :: g
def rnL : List Ent → List (Int × Nat) → List Ent × List Int
 | L, [] => (L, [])
 | L, (x, k) :: g =>
  if 1 < k then ((rnL (addL L (powEnt L x k)) g).1, addI L (powEnt L x k) :: (rnL (addL L (powEnt L x k)) g).2)
  else ((rnL L g).1, x :: (rnL L g).2)
def unr (g : List (Int × Nat)) : List Int := (g.map fun p => List.replicate p.2 p.1).flatten
theorem unr_cons (x : Int) (k : Nat) (g : List (Int × Nat)) : unr ((x, k) :: g) = List.replicate k x ++ unr g := by simp [unr]
def RunsOk : List (Int × Nat) → Prop
 | [] => True
 | [p] => 1 ≤ p.2
 | p :: q :: g => 1 ≤ p.2 ∧ p.1 ≠ q.1 ∧ RunsOk (q :: g)
theorem RunsOk.tail {p : Int × Nat} : ∀ {g : List (Int × Nat)}, RunsOk (p :: g) → RunsOk g
 | [], _ => trivial
 | _ :: _, h => h.2.2
theorem RunsOk.pos {p : Int × Nat} : ∀ {g : List (Int × Nat)}, RunsOk (p :: g) → 1 ≤ p.2
 | [], h => h
 | _ :: _, h => h.1
theorem rle_ok : ∀ l : List Int, RunsOk (rle l) ∧ unr (rle l) = l ∧ (rle l).length ≤ l.length ∧ ((rle l).length = l.length → ∀ p ∈ rle l, p.2 = 1)
 | [] => ⟨trivial, rfl, Nat.le_refl _, fun _ p hp => by simp [rle] at hp⟩
 | x :: l => by
  obtain ⟨h1, h2, h3, h4⟩ := rle_ok l
  unfold rle
  cases hr : rle l with
  | nil =>
   rw [hr] at h2
   have hl : l = [] := by rw [← h2]; rfl
   subst hl
   exact ⟨Nat.le_refl _, rfl, Nat.le_refl _, fun _ p hp => by simp at hp; rw [hp]⟩
  | cons q g =>
   obtain ⟨y, k⟩ := q
   rw [hr] at h1 h2 h3 h4
   dsimp only
   by_cases c : x = y
   · rw [if_pos c]
     refine ⟨?_, ?_, ?_, ?_⟩
     · cases g with
       | nil => show 1 ≤ k + 1; omega
       | cons q' g' => exact ⟨by show 1 ≤ k + 1; omega, h1.2.1, h1.2.2⟩
     · rw [unr_cons, List.replicate_succ, List.cons_append, ← unr_cons, h2, c]
     · simp only [List.length_cons] at h3 ⊢; omega
     · intro h; simp only [List.length_cons] at h3 h; omega
   · rw [if_neg c]
     refine ⟨⟨Nat.le_refl _, c, h1⟩, ?_, ?_, ?_⟩
     · rw [unr_cons, h2]; rfl
     · simp only [List.length_cons] at h3 ⊢; omega
     · intro h p hp
       rcases List.mem_cons.1 hp with e | hp
       · rw [e]
       · exact h4 (by simp only [List.length_cons] at h ⊢; omega) p hp
theorem reps_replicate (a : List Int) : ∀ k : Nat, reps a k = (List.replicate k a).flatten
 | 0 => rfl
 | k + 1 => by rw [List.replicate_succ, List.flatten_cons, ← reps_replicate a k]; rfl
theorem txts_append (L : List Ent) (a b : List Int) : txts L (a ++ b) = txts L a ++ txts L b := by simp [txts]
theorem txts_replicate (L : List Ent) (x : Int) (k : Nat) : txts L (List.replicate k x) = reps (txt L x) k := by
 rw [reps_replicate]; unfold txts; rw [List.map_replicate]
theorem SeqI.drop {L : List Ent} {l x : Int} {ids : List Int} : ∀ {k : Nat}, SeqI L l (List.replicate k x ++ ids) → SeqI L l ids
 | 0, h => h
 | k + 1, h => SeqI.drop (k := k) (by rw [List.replicate_succ, List.cons_append] at h; exact h.tail)
theorem rnL_ok {l : Int} (hl : 1 ≤ l) (hl2 : l % 2 = 1) : ∀ (g : List (Int × Nat)) (L : List Ent), RunsOk g → SOk L → DOk L → Uq L → SeqI L l (unr g) → (txts L (unr g)).length ≤ 1152921504606846976 →
    Left L (unr g) l (rnL L g).1 (rnL L g).2 ∧ (rnL L g).2.length = g.length ∧
    (∀ x k t, g = (x, k) :: t → ∃ h s, (rnL L g).2 = h :: s ∧ ((h = x ∧ k = 1) ∨ (klev (rnL L g).1 h = l ∧ (entAt (rnL L g).1 h).rule.kind = 3 ∧ (entAt (rnL L g).1 h).rule.left = x))) := by
 intro g
 induction g with
 | nil =>
  intro L _ hS hD hU hI ht
  exact ⟨⟨Gu.refl hS hD hU, ⟨fun u hu => by simp [rnL] at hu, fun u hu => by simp [rnL] at hu, trivial, trivial⟩, rfl, by simp [rnL]⟩, rfl, fun x k t h => by cases h⟩
 | cons p g ih =>
  obtain ⟨x, k⟩ := p
  intro L hr hS hD hU hI ht
  have hk1 : 1 ≤ k := hr.pos
  have hmem : x ∈ unr ((x, k) :: g) := by
   rw [unr_cons]; exact List.mem_append_left _ (List.mem_replicate.2 ⟨by omega, rfl⟩)
  have kx := hI.kn x hmem
  have lx := hI.lv x hmem
  have hIg : SeqI L l (unr g) := by rw [unr_cons] at hI; exact hI.drop
  rw [unr_cons, txts_append, txts_replicate, List.length_append, reps_len] at ht
  by_cases c : 1 < k
  · -- a new power
    have hxl : klev L x = l - 1 := by
     obtain ⟨k', rfl⟩ : ∃ k', k = k' + 2 := ⟨k - 2, by omega⟩
     have he := hI.eq
     rw [unr_cons, List.replicate_succ, List.replicate_succ] at he
     exact (he.1 rfl).2
    obtain ⟨g1, g2, g3, g4, g5, g6⟩ := pow_new hS hD hU kx.1 kx.2 (by omega : 2 ≤ k) (by rw [Nat.mul_comm]; exact Nat.le_trans (Nat.le_add_right _ _) ht)
    have hlev : klev (addL L (powEnt L x k)) (addI L (powEnt L x k)) = l := by rw [g6 lx.1 (by omega)]; omega
    have hkind : (entAt (addL L (powEnt L x k)) (addI L (powEnt L x k))).rule.kind = 3 ∧ (entAt (addL L (powEnt L x k)) (addI L (powEnt L x k))).rule.left = x := by rw [g5]; exact ⟨rfl, rfl⟩
    rw [rnL, if_pos c]
    generalize addI L (powEnt L x k) = i at *
    generalize addL L (powEnt L x k) = L1 at *
    obtain ⟨M, hM⟩ := g1.gr.ext
    have hI1 : SeqI L1 l (unr g) := by
     have := g1.gr.dok
     rw [hM] at this ⊢
     exact hIg.more hD this
    have ht1 : txts L1 (unr g) = txts L (unr g) := by rw [hM]; exact txts_more hD M hIg.kn
    obtain ⟨q, ql, qh⟩ := ih L1 hr.tail g1.gr.sok g1.gr.dok g1.uq hI1 (by rw [ht1]; omega)
    have hq := q.len
    obtain ⟨N, hN⟩ := q.gu.gr.ext
    have hi : kkey (rnL L1 g).1 i = kkey L1 i ∧ klev (rnL L1 g).1 i = klev L1 i := by
     have := q.gu.gr.dok
     rw [hN] at this ⊢
     exact kl_more g1.gr.dok N this _ i (Nat.le_refl _) g2 g3
    have hent : entAt (rnL L1 g).1 i = entAt L1 i := by rw [hN]; exact entAt_append L1 N i g2
    have hti : txt (rnL L1 g).1 i = reps (txt L x) k := by rw [hN, txt_append g1.gr.dok N g2, g4]
    have hki : isKnown (rnL L1 g).1 i := by rw [hN]; exact known_more g2 N
    refine ⟨⟨g1.trans q.gu (by rw [unr_cons]; simp only [List.length_append, List.length_replicate, List.length_cons]; omega), ⟨?_, ?_, ?_, ?_⟩, ?_, by rw [unr_cons]; simp only [List.length_append, List.length_replicate, List.length_cons]; omega⟩, by simp only [List.length_cons, ql], fun x' k' t' e => ?_⟩
    · intro u hu
      rcases List.mem_cons.1 hu with e | hu
      · rw [e]; exact ⟨hki, g3⟩
      · exact q.seq.kn u hu
    · intro u hu
      rcases List.mem_cons.1 hu with e | hu
      · rw [e, hi.2, hlev]; omega
      · exact q.seq.lv u hu
    · cases hout : (rnL L1 g).2 with
      | nil => trivial
      | cons h s =>
       refine ⟨fun k k1 k2 => ?_, by have := q.seq.nf; rwa [hout] at this⟩
       rw [hi.2, hlev] at k1
       omega
    · cases hg : g with
      | nil => simp [rnL]; trivial
      | cons p' g' =>
       obtain ⟨x2, k2⟩ := p'
       obtain ⟨h, s, hout, hh⟩ := qh x2 k2 g' hg
       rw [hg] at hout hh hent hi
       rw [hout]
       have hs := q.seq.eq
       rw [hg, hout] at hs
       refine ⟨fun e => ?_, hs⟩
       exfalso
       have hx2 : x ≠ x2 := by rw [hg] at hr; exact hr.2.1
       have hk2 := hIg.lv x2 (by rw [hg, unr_cons]; exact List.mem_append_left _ (List.mem_replicate.2 ⟨by have := hr.tail; rw [hg] at this; have := this.pos; omega, rfl⟩))
       have hk2' := hI1.lv x2 (by rw [hg, unr_cons]; exact List.mem_append_left _ (List.mem_replicate.2 ⟨by have := hr.tail; rw [hg] at this; have := this.pos; omega, rfl⟩))
       rcases hh with ⟨e1, _⟩ | ⟨e1, e2, e3⟩
       · rw [e1] at e
         rw [e] at hlev
         omega
       · rw [← e, hent, hkind.2] at e3
         exact hx2 e3
    · rw [txts_cons, hti, q.text, ht1, unr_cons, txts_append, txts_replicate]
    · cases e
      exact ⟨i, _, rfl, .inr ⟨hi.2.trans hlev, by rw [hent]; exact hkind.1, by rw [hent]; exact hkind.2⟩⟩
  · have hk : k = 1 := by omega
    subst hk
    rw [rnL, if_neg c]
    obtain ⟨q, ql, qh⟩ := ih L hr.tail hS hD hU hIg (by omega)
    obtain ⟨N, hN⟩ := q.gu.gr.ext
    have hx' : kkey (rnL L g).1 x = kkey L x ∧ klev (rnL L g).1 x = klev L x := by
     have := q.gu.gr.dok
     rw [hN] at this ⊢
     exact kl_more hD N this _ x (Nat.le_refl _) kx.1 kx.2
    have htx : txt (rnL L g).1 x = txt L x := by rw [hN]; exact txt_append hD N kx.1
    have hkx : isKnown (rnL L g).1 x := by rw [hN]; exact known_more kx.1 N
    have hql := q.len
    have hone : unr ((x, 1) :: g) = x :: unr g := by rw [unr_cons]; rfl
    refine ⟨⟨q.gu.le (by rw [hone]; simp only [List.length_cons]; omega), ⟨?_, ?_, ?_, ?_⟩, ?_, by rw [hone]; simp only [List.length_cons]; omega⟩, by simp only [List.length_cons, ql], fun x' k' t' e => by cases e; exact ⟨x, _, rfl, .inl ⟨rfl, rfl⟩⟩⟩
    · intro u hu
      rcases List.mem_cons.1 hu with e | hu
      · rw [e]; exact ⟨hkx, kx.2⟩
      · exact q.seq.kn u hu
    · intro u hu
      rcases List.mem_cons.1 hu with e | hu
      · rw [e, hx'.2]; omega
      · exact q.seq.lv u hu
    · cases hg : g with
      | nil => simp [rnL]; trivial
      | cons p' g' =>
       obtain ⟨x2, k2⟩ := p'
       obtain ⟨h, s, hout, hh⟩ := qh x2 k2 g' hg
       have hs := q.seq.nf
       rw [hg] at hout hh hx'
       rw [hg, hout] at hs
       rw [hout]
       refine ⟨fun k k1 k3 => ?_, hs⟩
       rcases hh with ⟨e1, e2⟩ | ⟨e1, _⟩
       · subst e1 e2
         have m2 : h ∈ unr g := by rw [hg, unr_cons]; exact List.mem_append_left _ (List.mem_replicate.2 ⟨by omega, rfl⟩)
         have hh' : kkey (rnL L g).1 h = kkey L h ∧ klev (rnL L g).1 h = klev L h := by
          have := q.gu.gr.dok
          rw [hN] at this ⊢
          exact kl_more hD N this _ h (Nat.le_refl _) (hIg.kn h m2).1 (hIg.kn h m2).2
         rw [hg] at hh'
         rw [hx'.2, hh'.2] at k1
         rw [hx'.1, hh'.1]
         by_cases ek : k = l
         · rintro ⟨_, k5, _⟩
           omega
         · have hn := hI.nf
           rw [hone, hg, unr_cons] at hn
           exact hn.1 k k1 (by omega)
       · rw [e1] at k1
         omega
    · cases hg : g with
      | nil => simp [rnL]; trivial
      | cons p' g' =>
       obtain ⟨x2, k2⟩ := p'
       obtain ⟨h, s, hout, hh⟩ := qh x2 k2 g' hg
       have hs := q.seq.eq
       rw [hg] at hout hh hx'
       rw [hg, hout] at hs
       rw [hout]
       refine ⟨fun e => ?_, hs⟩
       exfalso
       have hx2 : x ≠ x2 := by rw [hg] at hr; exact hr.2.1
       rcases hh with ⟨e1, _⟩ | ⟨e1, _⟩
       · exact hx2 (e.trans e1)
       · rw [← e, hx'.2] at e1
         omega
    · rw [txts_cons, htx, q.text, hone, txts_cons]
theorem rnL_same : ∀ (g : List (Int × Nat)) (L : List Ent), (∀ p ∈ g, p.2 = 1) → rnL L g = (L, unr g)
 | [], L, _ => rfl
 | (x, k) :: g, L, h => by
  have hk : k = 1 := h (x, k) (by simp)
  subst hk
  rw [rnL, if_neg (by omega), rnL_same g L (fun p hp => h p (List.mem_cons_of_mem _ hp)), unr_cons]
  rfl
end Go.Proofs.YtgldjpldldknoaaGreatDoor
/- Levels (plain): one level after the other, until one symbol is left. -/
set_option linter.unusedSimpArgs false
set_option linter.unusedVariables false
namespace Go.Proofs.YtgldjpldldknoaaGreatDoor
open Go.RowKit
def lvL (l : Int) (L : List Ent) (ids : List Int) : List Ent × List Int := if l % 2 = 1 then rnL L (rle ids) else prL ((l / 2 - 1).toNat % 123) L ids
theorem lvL_ok {l : Int} (hl : 1 ≤ l) {L : List Ent} {ids : List Int} (hS : SOk L) (hD : DOk L) (hU : Uq L) (hI : SeqI L l ids) (ht : (txts L ids).length ≤ 1152921504606846976) :
    Left L ids l (lvL l L ids).1 (lvL l L ids).2 ∧ (ids ≠ [] → (lvL l L ids).2 ≠ []) := by
 unfold lvL
 split
 · rename_i h
   obtain ⟨r1, r2, r3, r4⟩ := rle_ok ids
   have q := rnL_ok hl h (rle ids) L r1 hS hD hU (by rw [r2]; exact hI) (by rw [r2]; exact ht)
   rw [r2] at q
   refine ⟨q.1, fun hne => ?_⟩
   cases hr : rle ids with
   | nil => rw [hr] at r2; exact absurd r2.symm hne
   | cons p g =>
    obtain ⟨h', s, e, _⟩ := q.2.2 p.1 p.2 g hr
    rw [hr] at e
    rw [e]; simp
 · rename_i h
   have q := prL_ok (c := (l / 2 - 1).toNat % 123) (l := l) (by omega) (by omega) rfl _ ids L (Nat.le_refl _) hS hD hU hI ht
   refine ⟨q.1, fun hne => ?_⟩
   cases ids with
   | nil => exact absurd rfl hne
   | cons x t =>
    obtain ⟨h', s, e, _⟩ := q.2 x t rfl
    rw [e]; simp
def meas (l : Int) (L : List Ent) : List Int → Nat
 | x :: y :: t => (t.length + 2) * 1000 + (aftI (l - 1) (kkey L x) (kkey L y) - l).toNat
 | [_] => 1000
 | [] => 0
theorem meas_le {l : Int} (hl : 1 ≤ l) {L : List Ent} (hD : DOk L) : ∀ {ids : List Int}, (∀ u ∈ ids, isKnown L u ∧ u ≠ 0) → ids.length * 1000 ≤ meas l L ids ∧ meas l L ids ≤ ids.length * 1000 + 500
 | [], _ => by simp [meas]
 | [_], _ => by simp [meas]
 | x :: y :: t, h => by
  have kx := h x (by simp)
  have ky := h y (by simp)
  have rx := kkey_rng hD kx.1 kx.2
  have ry := kkey_rng hD ky.1 ky.2
  have a := aftI_spec (low := l - 1) (by omega) rx.1 rx.2 ry.1 ry.2
  have a1 := a.1
  have a2 := a.2.1
  simp only [meas, List.length_cons]
  omega
theorem meas_lt {l : Int} (hl : 1 ≤ l) {L : List Ent} {ids : List Int} (hS : SOk L) (hD : DOk L) (hU : Uq L) (hI : SeqI L l ids) (ht : (txts L ids).length ≤ 1152921504606846976) (h2 : 1 < ids.length) :
    meas (l + 1) (lvL l L ids).1 (lvL l L ids).2 < meas l L ids := by
 have q := (lvL_ok hl hS hD hU hI ht).1
 have m1 := meas_le (l := l + 1) (by omega) q.gu.gr.dok q.seq.kn
 have m2 := meas_le hl hD hI.kn
 have hle := q.len
 by_cases c : (lvL l L ids).2.length = ids.length
 · have hsame : lvL l L ids = (L, ids) ∧ ∀ x y t, ids = x :: y :: t → ¬ fitL l (kkey L x) (kkey L y) := by
     unfold lvL at c ⊢
     split at c
     · rename_i ho
       rw [if_pos ho]
       obtain ⟨r1, r2, r3, r4⟩ := rle_ok ids
       have k := rnL_ok hl ho (rle ids) L r1 hS hD hU (by rw [r2]; exact hI) (by rw [r2]; exact ht)
       rw [k.2.1] at c
       refine ⟨by rw [rnL_same _ _ (r4 c), r2], fun x y t _ => ?_⟩
       rintro ⟨_, k2, _⟩
       omega
     · rename_i ho
       rw [if_neg ho]
       obtain ⟨k1, k2⟩ := (prL_same (c := (l / 2 - 1).toNat % 123) _ ids L (Nat.le_refl _)).2 c
       refine ⟨k1, fun x y t e => ?_⟩
       rintro ⟨_, _, k3⟩
       rw [e] at k2
       have := k2.1
       rw [this] at k3
       cases k3
   obtain ⟨e1, e2⟩ := hsame
   rw [e1]
   obtain ⟨x, y, t, rfl⟩ : ∃ x y t, ids = x :: y :: t := by
    cases ids with
    | nil => simp at h2
    | cons x s => cases s with
     | nil => simp at h2
     | cons y t => exact ⟨x, y, t, rfl⟩
   have kx := hI.kn x (by simp)
   have ky := hI.kn y (by simp)
   have rx := kkey_rng hD kx.1 kx.2
   have ry := kkey_rng hD ky.1 ky.2
   obtain ⟨a1, a2, a3, a4⟩ := aftI_spec (low := l - 1) (by omega) rx.1 rx.2 ry.1 ry.2
   have hne : aftI (l - 1) (kkey L x) (kkey L y) ≠ l := fun e => e2 x y t rfl (by rw [e] at a3; exact a3)
   have he : aftI l (kkey L x) (kkey L y) = aftI (l - 1) (kkey L x) (kkey L y) :=
    aftI_eq (by omega) rx.1 rx.2 ry.1 ry.2 (by omega) a3 (fun k k1 k2 => a4 k (by omega) k2)
   simp only [meas]
   rw [show l + 1 - 1 = l by omega, he]
   omega
 · omega
end Go.Proofs.YtgldjpldldknoaaGreatDoor
/- The least number that two keys fit, by their bits (plain); the pairs of a level, by their indices. -/
set_option linter.unusedSimpArgs false
set_option linter.unusedVariables false
namespace Go.Proofs.YtgldjpldldknoaaGreatDoor
open Go.RowKit
theorem ctz_bits {D : Nat} (h0 : D ≠ 0) (hD : D < 2 ^ 64) : D.testBit (Lib.ctz 64 D) = true ∧ ∀ b, b < Lib.ctz 64 D → D.testBit b = false := by
 obtain ⟨m, h1, h2⟩ := Lib.ctzFrom_spec 64 D (by omega) hD
 have e : Lib.ctz 64 D = Lib.ctzFrom 64 D := by unfold Lib.ctz; rw [if_neg h0]
 rw [e]
 generalize Lib.ctzFrom 64 D = k at *
 subst h1
 refine ⟨?_, fun b hb => ?_⟩
 · rw [Nat.testBit_two_pow_mul]
   simp
 · rw [Nat.testBit_two_pow_mul]
   simp [Nat.not_le.2 hb]
theorem fitB_odd {x y : Nat} {b : Nat} (hb : b < 61) (h1 : x.testBit b = true) (h2 : y.testBit b = false) : fitB (2 * b + 1) x y = true := by
 unfold fitB
 rw [if_neg (by omega), show (2 * b + 1) / 2 = b by omega, show (2 * b + 1) % 2 = 1 by omega, Int.toNat_natCast, Int.toNat_natCast, h1, h2]
 rfl
theorem fitB_even {x y : Nat} {b : Nat} (hb : b < 61) (h1 : x.testBit b = false) (h2 : y.testBit b = true) : fitB (2 * b) x y = true := by
 unfold fitB
 rw [if_neg (by omega), show (2 * b) / 2 = b by omega, show (2 * b) % 2 = 0 by omega, Int.toNat_natCast, Int.toNat_natCast, h1, h2]
 rfl
theorem fitB_parts {x y : Nat} {c : Nat} (h : fitB c x y = true) (hc : c ≠ 122) : x.testBit (c / 2) = (c % 2 == 1) ∧ y.testBit (c / 2) = (c % 2 == 0) := by
 unfold fitB at h
 rw [if_neg hc, Bool.and_eq_true, beq_iff_eq, beq_iff_eq, Int.toNat_natCast, Int.toNat_natCast] at h
 exact h
theorem fitN_is {x y : Int} {n : Nat} : ∀ (f c : Nat), c ≤ n → n < c + f → fitB n x y = true → (∀ k, c ≤ k → k < n → fitB k x y = false) → fitN x y f c = some n
 | 0, c => by intro h1 h2; omega
 | f + 1, c => by
  intro h1 h2 h3 h4
  unfold fitN
  by_cases e : c = n
  · rw [e, h3, if_pos rfl]
  · rw [h4 c (Nat.le_refl _) (by omega), if_neg (by decide)]
    exact fitN_is f (c + 1) (by omega) (by omega) h3 (fun k k1 k2 => h4 k (by omega) k2)
theorem fitN_no {x y : Int} : ∀ (f c : Nat), (∀ k, c ≤ k → k < c + f → fitB k x y = false) → fitN x y f c = none
 | 0, c => by intro h; rfl
 | f + 1, c => by
  intro h
  unfold fitN
  rw [h c (Nat.le_refl _) (by omega), if_neg (by decide)]
  exact fitN_no f (c + 1) (fun k k1 k2 => h k (by omega) (by omega))
theorem fit_bits {x y c D : Nat} (hx : x < 2305843009213693951) (hy : y < 2305843009213693951) (hne : x ≠ y) (hc : c < 122) (hD64 : D < 2 ^ 64)
    (hD : ∀ b, b < 61 → D.testBit b = ((x.testBit b != y.testBit b) && decide (c / 2 ≤ b) && !(c % 2 == 1 && !x.testBit (c / 2) && b == c / 2))) (hD61 : ∀ b, 61 ≤ b → D.testBit b = false) :
    (D = 0 → fitN (x : Int) y (123 - c) c = none) ∧ (D ≠ 0 → Lib.ctz 64 D < 61 ∧ fitN (x : Int) y (123 - c) c = some (2 * Lib.ctz 64 D + if x.testBit (Lib.ctz 64 D) then 1 else 0)) := by
 have h122 : fitB 122 (x : Int) y = false := by
  unfold fitB
  rw [if_pos rfl, beq_eq_false_iff_ne]
  omega
 -- what fits, differs
 have key : ∀ k, c ≤ k → k < 122 → fitB k (x : Int) y = true → D.testBit (k / 2) = true := by
  intro k k1 k2 hk
  obtain ⟨p1, p2⟩ := fitB_parts hk (by omega)
  rw [hD _ (by omega), p1, p2]
  have hd : decide (c / 2 ≤ k / 2) = true := decide_eq_true (by omega)
  rw [hd]
  have hx1 : ((k % 2 == 1) != (k % 2 == 0)) = true := by
   rcases Nat.mod_two_eq_zero_or_one k with e | e <;> rw [e] <;> rfl
  rw [hx1]
  cases hb : (c % 2 == 1 && !x.testBit (c / 2) && k / 2 == c / 2) with
  | false => rfl
  | true =>
   exfalso
   rw [Bool.and_eq_true, Bool.and_eq_true, beq_iff_eq, beq_iff_eq, Bool.not_eq_true'] at hb
   obtain ⟨⟨b1, b2⟩, b3⟩ := hb
   rw [← b3, p1, beq_eq_false_iff_ne] at b2
   omega
 constructor
 · intro h0
   refine fitN_no _ _ (fun k k1 k2 => ?_)
   by_cases e : k = 122
   · rw [e]; exact h122
   · cases hf : fitB k (x : Int) y with
     | false => rfl
     | true =>
      have := key k k1 (by omega) hf
      rw [h0, Nat.zero_testBit] at this
      cases this
 · intro h0
   obtain ⟨t1, t2⟩ := ctz_bits h0 hD64
   generalize Lib.ctz 64 D = b at *
   have hb : b < 61 := by
    rcases Nat.lt_or_ge b 61 with g | g
    · exact g
    · rw [hD61 b g] at t1; cases t1
   refine ⟨hb, ?_⟩
   rw [hD b hb, Bool.and_eq_true, Bool.and_eq_true, decide_eq_true_eq, Bool.not_eq_true'] at t1
   obtain ⟨⟨d1, d2⟩, d3⟩ := t1
   -- nothing smaller fits
   have low : ∀ k, c ≤ k → k < 2 * b → fitB k (x : Int) y = false := by
    intro k k1 k2
    cases hf : fitB k (x : Int) y with
    | false => rfl
    | true =>
     have := key k k1 (by omega) hf
     rw [t2 (k / 2) (by omega)] at this
     cases this
   cases hxb : x.testBit b with
   | true =>
    have hyb : y.testBit b = false := by rw [hxb] at d1; cases h : y.testBit b with | true => rw [h] at d1; cases d1 | false => rfl
    rw [if_pos rfl]
    refine fitN_is _ _ (by omega) (by omega) (fitB_odd hb hxb hyb) (fun k k1 k2 => ?_)
    by_cases e : k = 2 * b
    · cases hf : fitB k (x : Int) y with
      | false => rfl
      | true =>
       obtain ⟨p1, p2⟩ := fitB_parts hf (by omega)
       rw [e, show 2 * b / 2 = b by omega, show 2 * b % 2 = 0 by omega, hxb] at p1
       cases p1
    · exact low k k1 (by omega)
   | false =>
    have hyb : y.testBit b = true := by rw [hxb] at d1; cases h : y.testBit b with | false => rw [h] at d1; cases d1 | true => rfl
    rw [if_neg (by decide)]
    have hcb : c ≤ 2 * b := by
     rcases Nat.lt_or_ge (2 * b) c with g | g
     · exfalso
       have e1 : b = c / 2 := by omega
       have e2 : c % 2 = 1 := by omega
       rw [e2, ← e1, hxb] at d3
       simp at d3
     · exact g
    exact fitN_is _ _ (by omega) (by omega) (fitB_even hb hxb hyb) (fun k k1 k2 => low k k1 (by omega))
def grd (c : Nat) : Nat → List Int → List Nat
 | i, x :: y :: t => if fitB c x y = true then i :: grd c (i + 2) t else grd c (i + 1) (y :: t)
 | _, [_] => []
 | _, [] => []
termination_by _ l => l.length
end Go.Proofs.YtgldjpldldknoaaGreatDoor
/- Levels by indices (plain): how the loops over the pairs and the stretches make a level. -/
set_option linter.unusedSimpArgs false
set_option linter.unusedVariables false
namespace Go.Proofs.YtgldjpldldknoaaGreatDoor
open Go.RowKit
theorem grd_fit {c i : Nat} {x y : Int} {t : List Int} (h : fitB c x y = true) : grd c i (x :: y :: t) = i :: grd c (i + 2) t := by rw [grd, if_pos h]
theorem grd_not {c i : Nat} {x y : Int} {t : List Int} (h : fitB c x y = false) : grd c i (x :: y :: t) = grd c (i + 1) (y :: t) := by rw [grd, if_neg (by rw [h]; decide)]
theorem grd_one (c i : Nat) (x : Int) : grd c i [x] = [] := by rw [grd]
theorem grd_nil (c i : Nat) : grd c i [] = [] := by rw [grd]
theorem fit_next {c : Nat} (hc : c ≠ 122) {x y z : Int} (h : fitB c x y = true) : fitB c y z = false := by
 unfold fitB at h ⊢
 rw [if_neg hc] at h ⊢
 rw [Bool.and_eq_true, beq_iff_eq, beq_iff_eq] at h
 rw [h.2]
 rcases Nat.mod_two_eq_zero_or_one c with e | e <;> rw [e] <;> rfl
theorem grd_step {c : Nat} (hc : c ≠ 122) (i : Nat) (x y : Int) (t : List Int) : grd c i (x :: y :: t) = (if fitB c x y = true then [i] else []) ++ grd c (i + 1) (y :: t) := by
 cases h : fitB c x y with
 | true =>
  rw [grd_fit h, if_pos rfl]
  cases t with
  | nil => rw [grd_one, grd_nil]; rfl
  | cons z t => rw [grd_not (fit_next hc h)]; rfl
 | false => rw [grd_not h, if_neg (by decide)]; rfl
def strP : Nat → Nat → List Nat
 | i, n + 2 => i :: strP (i + 2) n
 | _, 1 => []
 | _, 0 => []
theorem fit_tie (x : Int) : fitB 122 x x = true := by unfold fitB; rw [if_pos rfl]; simp
theorem fit_tie_ne {x y : Int} (h : x ≠ y) : fitB 122 x y = false := by unfold fitB; rw [if_pos rfl]; simpa using h
theorem grd_stretch (x : Int) : ∀ (n i : Nat) (t : List Int), (∀ y s, t = y :: s → x ≠ y) → grd 122 i (List.replicate n x ++ t) = strP i n ++ grd 122 (i + n) t
 | 0, i, t, _ => rfl
 | 1, i, t, h => by
  show grd 122 i (x :: t) = [] ++ grd 122 (i + 1) t
  cases t with
  | nil => rw [grd_one, grd_nil]; rfl
  | cons y s => rw [grd_not (fit_tie_ne (h y s rfl))]; rfl
 | n + 2, i, t, h => by
  show grd 122 i (x :: x :: (List.replicate n x ++ t)) = i :: (strP (i + 2) n ++ grd 122 (i + (n + 2)) t)
  rw [grd_fit (fit_tie x), grd_stretch x n (i + 2) t h, show i + 2 + n = i + (n + 2) by omega]
theorem prL_jump {c : Nat} {L : List Ent} : ∀ (n : Nat) (l : List Int) (a i : Nat) (is : List Nat), l.length ≤ n → grd c a (l.map (kkey L)) = i :: is →
    ∃ pre x y t, l = pre ++ x :: y :: t ∧ i = a + pre.length ∧ is = grd c (i + 2) (t.map (kkey L)) ∧
     prL c L l = ((prL c (addL L (pairEnt L x y)) t).1, pre ++ addI L (pairEnt L x y) :: (prL c (addL L (pairEnt L x y)) t).2) := by
 intro n
 induction n with
 | zero =>
  intro l a i is hn h
  have : l = [] := List.eq_nil_of_length_eq_zero (by omega)
  subst this
  rw [List.map_nil, grd_nil] at h; cases h
 | succ n ih =>
  intro l a i is hn h
  match l, hn, h with
  | [], hn, h => rw [List.map_nil, grd_nil] at h; cases h
  | [x], hn, h => rw [List.map_cons, List.map_nil, grd_one] at h; cases h
  | x :: y :: t, hn, h =>
   simp only [List.map_cons] at h
   cases hf : fitB c (kkey L x) (kkey L y) with
   | true =>
    rw [grd_fit hf, List.cons.injEq] at h
    obtain ⟨rfl, rfl⟩ := h
    refine ⟨[], x, y, t, rfl, rfl, rfl, ?_⟩
    rw [prL, if_pos hf]; rfl
   | false =>
    rw [grd_not hf] at h
    obtain ⟨pre, x', y', t', h1, h2, h3, h4⟩ := ih (y :: t) (a + 1) i is (by simp at hn ⊢; omega) h
    refine ⟨x :: pre, x', y', t', by rw [h1]; rfl, by simp only [List.length_cons]; omega, h3, ?_⟩
    rw [prL, if_neg (by rw [hf]; decide), h4]; rfl
theorem prL_end {c : Nat} {L : List Ent} : ∀ (n : Nat) (l : List Int) (a : Nat), l.length ≤ n → grd c a (l.map (kkey L)) = [] → prL c L l = (L, l) := by
 intro n
 induction n with
 | zero =>
  intro l a hn h
  have : l = [] := List.eq_nil_of_length_eq_zero (by omega)
  subst this
  rw [prL]
 | succ n ih =>
  intro l a hn h
  match l, hn, h with
  | [], hn, h => rw [prL]
  | [x], hn, h => rw [prL]
  | x :: y :: t, hn, h =>
   simp only [List.map_cons] at h
   cases hf : fitB c (kkey L x) (kkey L y) with
   | true => rw [grd_fit hf] at h; cases h
   | false =>
    rw [grd_not hf] at h
    rw [prL, if_neg (by rw [hf]; decide), ih (y :: t) (a + 1) (by simp at hn ⊢; omega) h]
end Go.Proofs.YtgldjpldldknoaaGreatDoor

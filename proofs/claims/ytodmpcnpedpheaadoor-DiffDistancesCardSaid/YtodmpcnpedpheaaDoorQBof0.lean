/- Plain words: the texts of powers, the lengths of all texts, and how deep a balanced text can be. No program. -/
import Derived.Test.YtodmpcnpedpheaaDoorQCon
import Derived.Test.YtodmpcnpedpheaaDoorQSg0
set_option linter.unusedSimpArgs false
set_option linter.unusedVariables false
namespace Go.Proofs.YtodmpcnpedpheaaDoor
open Go.RowKit

theorem txt_pow {L : List Ent} (h : DOk L) {id : Int} (hk : isKnown L id) (h0 : id ≠ 0) (h3 : (entAt L id).rule.kind = 3) : txt L id = reps (txt L (entAt L id).rule.left) (entAt L id).rule.times.toNat := by
  obtain ⟨g, hg⟩ : ∃ g : Nat, id.toNat = g + 1 := ⟨id.toNat - 1, by have := hk.1; omega⟩
  rcases h.at id hk h0 with ⟨k1, _⟩ | ⟨k1, k2, _⟩ | ⟨k1, k2, _⟩
  · omega
  · omega
  · unfold txt
    rw [hg]
    simp only [txtF]
    rw [if_neg h0, if_neg (by omega), if_neg (by omega)]
    have hb := hk.2
    rw [txtF_eq h g g _ ⟨by omega, by omega⟩ (by omega) (by omega)]

theorem reps_len (t : List Int) (n : Nat) : (reps t n).length = n * t.length := by
  induction n with
  | zero => simp [reps]
  | succ n ih => simp only [reps, List.length_append, ih, Nat.succ_mul]; omega
theorem reps_succ (t : List Int) (n : Nat) : reps t (n + 1) = t ++ reps t n := rfl
theorem reps_two (t : List Int) : ∀ n : Nat, reps t (2 * n) = reps (t ++ t) n
  | 0 => rfl
  | n + 1 => by
    rw [show 2 * (n + 1) = 2 * n + 1 + 1 by omega, reps_succ, reps_succ, reps_two t n, reps_succ, List.append_assoc]
theorem reps_odd (t : List Int) (n : Nat) : reps t (2 * n + 1) = t ++ reps (t ++ t) n := by rw [reps_succ, reps_two]

/-- The length of the text of any ID. -/
theorem txt_len {L : List Ent} (hd : DOk L) (hs : SOk L) : ∀ (n : Nat) (id : Int), id.toNat ≤ n → isKnown L id → ((txt L id).length : Int) = (entAt L id).wt.len := by
  intro n
  induction n with
  | zero =>
    intro id h hk
    have h0 : id = 0 := by have := hk.1; omega
    subst h0; rfl
  | succ n ih =>
    intro id h hk
    by_cases h0 : id = 0
    · subst h0; rfl
    · have hb := hk.2
      rcases hd.at id hk h0 with ⟨k1, k3⟩ | ⟨k1, k2, k3⟩ | ⟨k1, k2, k3⟩
      · rw [txt_letter hk h0 k1, k3]
        show (1 : Int) = (Wt.letter _).len
        rw [letter_len]
      · have h1 := ih (entAt L id).rule.left (by omega) ⟨by omega, by omega⟩
        have h2 := ih (entAt L id).rule.right (by omega) ⟨by omega, by omega⟩
        rw [txt_pair hd hk h0 k1, List.length_append]
        have e : (entAt L id).wt.len = (entAt L (entAt L id).rule.left).wt.len + (entAt L (entAt L id).rule.right).wt.len := by
          conv => lhs; rw [k3]
          rfl
        omega
      · have h1 := ih (entAt L id).rule.left (by omega) ⟨by omega, by omega⟩
        have e : (entAt L id).wt.len = (entAt L (entAt L id).rule.left).wt.len * (entAt L id).rule.times := by
          conv => lhs; rw [k3]
          rfl
        have p1 := ((hs.at id hk).2.2.2 h0).1
        have p2 := ((hs.at (entAt L id).rule.left ⟨by omega, by omega⟩).2.2.2 (by omega)).1
        have p3 : 0 ≤ (entAt L id).rule.times := by
          refine Classical.byContradiction fun hn => ?_
          have hm := Int.mul_le_mul_of_nonneg_left (show (entAt L id).rule.times ≤ 0 by omega) (show (0 : Int) ≤ (entAt L (entAt L id).rule.left).wt.len by omega)
          rw [← e, Int.mul_zero] at hm
          omega
        rw [txt_pow hd hk h0 k1, reps_len]
        rw [e, ← h1]
        have e2 : (((entAt L id).rule.times.toNat : Nat) : Int) = (entAt L id).rule.times := by omega
        rw [Int.natCast_mul, e2, Int.mul_comm]

/-- The times of a power. -/
theorem pow_times {L : List Ent} (hd : DOk L) (hs : SOk L) {id : Int} (hk : isKnown L id) (h0 : id ≠ 0) (h3 : (entAt L id).rule.kind = 3) : 1 ≤ (entAt L id).rule.times ∧ (entAt L id).rule.times ≤ 1152921504606846976 ∧ 1 ≤ (entAt L id).rule.left ∧ (entAt L id).rule.left < id ∧ txt L (entAt L id).rule.left ≠ [] := by
  have hb := hk.2
  rcases hd.at id hk h0 with ⟨k1, k3⟩ | ⟨k1, k2, k3⟩ | ⟨k1, k2, k3⟩
  · omega
  · omega
  · have e : (entAt L id).wt.len = (entAt L (entAt L id).rule.left).wt.len * (entAt L id).rule.times := by
      conv => lhs; rw [k3]
      rfl
    have p0 := (hs.at id hk).1.len1
    have p1 := ((hs.at id hk).2.2.2 h0).1
    have p2 := ((hs.at (entAt L id).rule.left ⟨by omega, by omega⟩).2.2.2 (by omega)).1
    have hl := txt_len hd hs _ _ (Nat.le_refl _) (show isKnown L (entAt L id).rule.left from ⟨by omega, by omega⟩)
    have p3 : 1 ≤ (entAt L id).rule.times := by
      refine Classical.byContradiction fun hn => ?_
      have hm := Int.mul_le_mul_of_nonneg_left (show (entAt L id).rule.times ≤ 0 by omega) (show (0 : Int) ≤ (entAt L (entAt L id).rule.left).wt.len by omega)
      rw [← e, Int.mul_zero] at hm
      omega
    have p4 : (entAt L id).rule.times ≤ (entAt L id).wt.len := by
      have hm := Int.mul_le_mul_of_nonneg_right p2 (show (0 : Int) ≤ (entAt L id).rule.times by omega)
      rw [← e, Int.one_mul] at hm
      exact hm
    refine ⟨p3, by omega, by omega, by omega, fun e2 => ?_⟩
    rw [e2] at hl
    simp at hl
    omega

theorem lst87 : lst 87 = 1779979416004714189 := by
  have h0 : lst 0 = 1 := rfl
  have h1 : lst 1 = 2 := rfl
  have h2 : lst 2 = 3 := by rw [show lst 2 = lst 1 + lst 0 from rfl, h1, h0]
  have h3 : lst 3 = 5 := by rw [show lst 3 = lst 2 + lst 1 from rfl, h2, h1]
  have h4 : lst 4 = 8 := by rw [show lst 4 = lst 3 + lst 2 from rfl, h3, h2]
  have h5 : lst 5 = 13 := by rw [show lst 5 = lst 4 + lst 3 from rfl, h4, h3]
  have h6 : lst 6 = 21 := by rw [show lst 6 = lst 5 + lst 4 from rfl, h5, h4]
  have h7 : lst 7 = 34 := by rw [show lst 7 = lst 6 + lst 5 from rfl, h6, h5]
  have h8 : lst 8 = 55 := by rw [show lst 8 = lst 7 + lst 6 from rfl, h7, h6]
  have h9 : lst 9 = 89 := by rw [show lst 9 = lst 8 + lst 7 from rfl, h8, h7]
  have h10 : lst 10 = 144 := by rw [show lst 10 = lst 9 + lst 8 from rfl, h9, h8]
  have h11 : lst 11 = 233 := by rw [show lst 11 = lst 10 + lst 9 from rfl, h10, h9]
  have h12 : lst 12 = 377 := by rw [show lst 12 = lst 11 + lst 10 from rfl, h11, h10]
  have h13 : lst 13 = 610 := by rw [show lst 13 = lst 12 + lst 11 from rfl, h12, h11]
  have h14 : lst 14 = 987 := by rw [show lst 14 = lst 13 + lst 12 from rfl, h13, h12]
  have h15 : lst 15 = 1597 := by rw [show lst 15 = lst 14 + lst 13 from rfl, h14, h13]
  have h16 : lst 16 = 2584 := by rw [show lst 16 = lst 15 + lst 14 from rfl, h15, h14]
  have h17 : lst 17 = 4181 := by rw [show lst 17 = lst 16 + lst 15 from rfl, h16, h15]
  have h18 : lst 18 = 6765 := by rw [show lst 18 = lst 17 + lst 16 from rfl, h17, h16]
  have h19 : lst 19 = 10946 := by rw [show lst 19 = lst 18 + lst 17 from rfl, h18, h17]
  have h20 : lst 20 = 17711 := by rw [show lst 20 = lst 19 + lst 18 from rfl, h19, h18]
  have h21 : lst 21 = 28657 := by rw [show lst 21 = lst 20 + lst 19 from rfl, h20, h19]
  have h22 : lst 22 = 46368 := by rw [show lst 22 = lst 21 + lst 20 from rfl, h21, h20]
  have h23 : lst 23 = 75025 := by rw [show lst 23 = lst 22 + lst 21 from rfl, h22, h21]
  have h24 : lst 24 = 121393 := by rw [show lst 24 = lst 23 + lst 22 from rfl, h23, h22]
  have h25 : lst 25 = 196418 := by rw [show lst 25 = lst 24 + lst 23 from rfl, h24, h23]
  have h26 : lst 26 = 317811 := by rw [show lst 26 = lst 25 + lst 24 from rfl, h25, h24]
  have h27 : lst 27 = 514229 := by rw [show lst 27 = lst 26 + lst 25 from rfl, h26, h25]
  have h28 : lst 28 = 832040 := by rw [show lst 28 = lst 27 + lst 26 from rfl, h27, h26]
  have h29 : lst 29 = 1346269 := by rw [show lst 29 = lst 28 + lst 27 from rfl, h28, h27]
  have h30 : lst 30 = 2178309 := by rw [show lst 30 = lst 29 + lst 28 from rfl, h29, h28]
  have h31 : lst 31 = 3524578 := by rw [show lst 31 = lst 30 + lst 29 from rfl, h30, h29]
  have h32 : lst 32 = 5702887 := by rw [show lst 32 = lst 31 + lst 30 from rfl, h31, h30]
  have h33 : lst 33 = 9227465 := by rw [show lst 33 = lst 32 + lst 31 from rfl, h32, h31]
  have h34 : lst 34 = 14930352 := by rw [show lst 34 = lst 33 + lst 32 from rfl, h33, h32]
  have h35 : lst 35 = 24157817 := by rw [show lst 35 = lst 34 + lst 33 from rfl, h34, h33]
  have h36 : lst 36 = 39088169 := by rw [show lst 36 = lst 35 + lst 34 from rfl, h35, h34]
  have h37 : lst 37 = 63245986 := by rw [show lst 37 = lst 36 + lst 35 from rfl, h36, h35]
  have h38 : lst 38 = 102334155 := by rw [show lst 38 = lst 37 + lst 36 from rfl, h37, h36]
  have h39 : lst 39 = 165580141 := by rw [show lst 39 = lst 38 + lst 37 from rfl, h38, h37]
  have h40 : lst 40 = 267914296 := by rw [show lst 40 = lst 39 + lst 38 from rfl, h39, h38]
  have h41 : lst 41 = 433494437 := by rw [show lst 41 = lst 40 + lst 39 from rfl, h40, h39]
  have h42 : lst 42 = 701408733 := by rw [show lst 42 = lst 41 + lst 40 from rfl, h41, h40]
  have h43 : lst 43 = 1134903170 := by rw [show lst 43 = lst 42 + lst 41 from rfl, h42, h41]
  have h44 : lst 44 = 1836311903 := by rw [show lst 44 = lst 43 + lst 42 from rfl, h43, h42]
  have h45 : lst 45 = 2971215073 := by rw [show lst 45 = lst 44 + lst 43 from rfl, h44, h43]
  have h46 : lst 46 = 4807526976 := by rw [show lst 46 = lst 45 + lst 44 from rfl, h45, h44]
  have h47 : lst 47 = 7778742049 := by rw [show lst 47 = lst 46 + lst 45 from rfl, h46, h45]
  have h48 : lst 48 = 12586269025 := by rw [show lst 48 = lst 47 + lst 46 from rfl, h47, h46]
  have h49 : lst 49 = 20365011074 := by rw [show lst 49 = lst 48 + lst 47 from rfl, h48, h47]
  have h50 : lst 50 = 32951280099 := by rw [show lst 50 = lst 49 + lst 48 from rfl, h49, h48]
  have h51 : lst 51 = 53316291173 := by rw [show lst 51 = lst 50 + lst 49 from rfl, h50, h49]
  have h52 : lst 52 = 86267571272 := by rw [show lst 52 = lst 51 + lst 50 from rfl, h51, h50]
  have h53 : lst 53 = 139583862445 := by rw [show lst 53 = lst 52 + lst 51 from rfl, h52, h51]
  have h54 : lst 54 = 225851433717 := by rw [show lst 54 = lst 53 + lst 52 from rfl, h53, h52]
  have h55 : lst 55 = 365435296162 := by rw [show lst 55 = lst 54 + lst 53 from rfl, h54, h53]
  have h56 : lst 56 = 591286729879 := by rw [show lst 56 = lst 55 + lst 54 from rfl, h55, h54]
  have h57 : lst 57 = 956722026041 := by rw [show lst 57 = lst 56 + lst 55 from rfl, h56, h55]
  have h58 : lst 58 = 1548008755920 := by rw [show lst 58 = lst 57 + lst 56 from rfl, h57, h56]
  have h59 : lst 59 = 2504730781961 := by rw [show lst 59 = lst 58 + lst 57 from rfl, h58, h57]
  have h60 : lst 60 = 4052739537881 := by rw [show lst 60 = lst 59 + lst 58 from rfl, h59, h58]
  have h61 : lst 61 = 6557470319842 := by rw [show lst 61 = lst 60 + lst 59 from rfl, h60, h59]
  have h62 : lst 62 = 10610209857723 := by rw [show lst 62 = lst 61 + lst 60 from rfl, h61, h60]
  have h63 : lst 63 = 17167680177565 := by rw [show lst 63 = lst 62 + lst 61 from rfl, h62, h61]
  have h64 : lst 64 = 27777890035288 := by rw [show lst 64 = lst 63 + lst 62 from rfl, h63, h62]
  have h65 : lst 65 = 44945570212853 := by rw [show lst 65 = lst 64 + lst 63 from rfl, h64, h63]
  have h66 : lst 66 = 72723460248141 := by rw [show lst 66 = lst 65 + lst 64 from rfl, h65, h64]
  have h67 : lst 67 = 117669030460994 := by rw [show lst 67 = lst 66 + lst 65 from rfl, h66, h65]
  have h68 : lst 68 = 190392490709135 := by rw [show lst 68 = lst 67 + lst 66 from rfl, h67, h66]
  have h69 : lst 69 = 308061521170129 := by rw [show lst 69 = lst 68 + lst 67 from rfl, h68, h67]
  have h70 : lst 70 = 498454011879264 := by rw [show lst 70 = lst 69 + lst 68 from rfl, h69, h68]
  have h71 : lst 71 = 806515533049393 := by rw [show lst 71 = lst 70 + lst 69 from rfl, h70, h69]
  have h72 : lst 72 = 1304969544928657 := by rw [show lst 72 = lst 71 + lst 70 from rfl, h71, h70]
  have h73 : lst 73 = 2111485077978050 := by rw [show lst 73 = lst 72 + lst 71 from rfl, h72, h71]
  have h74 : lst 74 = 3416454622906707 := by rw [show lst 74 = lst 73 + lst 72 from rfl, h73, h72]
  have h75 : lst 75 = 5527939700884757 := by rw [show lst 75 = lst 74 + lst 73 from rfl, h74, h73]
  have h76 : lst 76 = 8944394323791464 := by rw [show lst 76 = lst 75 + lst 74 from rfl, h75, h74]
  have h77 : lst 77 = 14472334024676221 := by rw [show lst 77 = lst 76 + lst 75 from rfl, h76, h75]
  have h78 : lst 78 = 23416728348467685 := by rw [show lst 78 = lst 77 + lst 76 from rfl, h77, h76]
  have h79 : lst 79 = 37889062373143906 := by rw [show lst 79 = lst 78 + lst 77 from rfl, h78, h77]
  have h80 : lst 80 = 61305790721611591 := by rw [show lst 80 = lst 79 + lst 78 from rfl, h79, h78]
  have h81 : lst 81 = 99194853094755497 := by rw [show lst 81 = lst 80 + lst 79 from rfl, h80, h79]
  have h82 : lst 82 = 160500643816367088 := by rw [show lst 82 = lst 81 + lst 80 from rfl, h81, h80]
  have h83 : lst 83 = 259695496911122585 := by rw [show lst 83 = lst 82 + lst 81 from rfl, h82, h81]
  have h84 : lst 84 = 420196140727489673 := by rw [show lst 84 = lst 83 + lst 82 from rfl, h83, h82]
  have h85 : lst 85 = 679891637638612258 := by rw [show lst 85 = lst 84 + lst 83 from rfl, h84, h83]
  have h86 : lst 86 = 1100087778366101931 := by rw [show lst 86 = lst 85 + lst 84 from rfl, h85, h84]
  have h87 : lst 87 = 1779979416004714189 := by rw [show lst 87 = lst 86 + lst 85 from rfl, h86, h85]
  exact h87

/-- No balanced text is deeper than 86. -/
theorem BalZ.deep86 {L : List Ent} {id : Int} {t : List Int} {d : Int} (h : BalZ L id t d) (hd : DOk L) (hs : SOk L) (hl : (t.length : Int) ≤ 1152921504606846976) : 0 ≤ d ∧ d ≤ 86 := by
  have := h.deep hd hs (D := 86) (by rw [lst87]; omega)
  omega

theorem joinN_le {a b : Int} (h1 : 0 ≤ a) (h2 : a ≤ 86) (h3 : 0 ≤ b) (h4 : b ≤ 86) : joinN a b ≤ 256 := by unfold joinN; omega
theorem joinN_self (a : Int) : joinN a a = 1 := by unfold joinN; omega

end Go.Proofs.YtodmpcnpedpheaaDoor

/- Levels (plain): what a pair level and a run level leave of a sequence. -/
set_option linter.unusedSimpArgs false
set_option linter.unusedVariables false
namespace Go.Proofs.YtodmpcnpedpheaaDoor
open Go.RowKit

theorem known_more {L : List Ent} {id : Int} (h : isKnown L id) (M : List Ent) : isKnown (L ++ M) id := ⟨h.1, by have := h.2; rw [List.length_append]; omega⟩

/-- A relation between neighbours. -/
def Adj (R : Int → Int → Prop) : List Int → Prop
  | [] => True
  | [_] => True
  | x :: y :: t => R x y ∧ Adj R (y :: t)

theorem Adj.tail {R : Int → Int → Prop} {x : Int} : ∀ {l : List Int}, Adj R (x :: l) → Adj R l
  | [], _ => trivial
  | _ :: _, h => h.2

theorem Adj.imp {R S : Int → Int → Prop} : ∀ {l : List Int}, (∀ x ∈ l, ∀ y ∈ l, R x y → S x y) → Adj R l → Adj S l
  | [], _, _ => trivial
  | [_], _, _ => trivial
  | x :: y :: t, hi, h => ⟨hi x (by simp) y (by simp) h.1, Adj.imp (fun a ha b hb => hi a (by simp [List.mem_cons] at ha ⊢; exact .inr ha) b (by simp [List.mem_cons] at hb ⊢; exact .inr hb)) h.2⟩

/-- The text of a sequence. -/
def txts (L : List Ent) (ids : List Int) : List Int := (ids.map (txt L)).flatten

theorem txts_cons (L : List Ent) (x : Int) (l : List Int) : txts L (x :: l) = txt L x ++ txts L l := by simp [txts]

/-- A sequence ahead of a level. -/
structure SeqI (L : List Ent) (l : Int) (ids : List Int) : Prop where
  kn : ∀ u ∈ ids, isKnown L u ∧ u ≠ 0
  lv : ∀ u ∈ ids, 0 ≤ klev L u ∧ klev L u < l
  nf : Adj (fun u v => ∀ k, max (klev L u) (klev L v) < k → k < l → ¬ fitL k (kkey L u) (kkey L v)) ids
  eq : Adj (fun u v => u = v → l % 2 = 1 ∧ klev L u = l - 1) ids

theorem SeqI.tail {L : List Ent} {l x : Int} {ids : List Int} (h : SeqI L l (x :: ids)) : SeqI L l ids :=
  ⟨fun u hu => h.kn u (List.mem_cons_of_mem _ hu), fun u hu => h.lv u (List.mem_cons_of_mem _ hu), h.nf.tail, h.eq.tail⟩

theorem SeqI.more {L : List Ent} {l : Int} {ids : List Int} (h : SeqI L l ids) (hD : DOk L) {M : List Ent} (hD' : DOk (L ++ M)) : SeqI (L ++ M) l ids := by
  have e : ∀ u ∈ ids, kkey (L ++ M) u = kkey L u ∧ klev (L ++ M) u = klev L u := fun u hu => kl_more hD M hD' _ u (Nat.le_refl _) (h.kn u hu).1 (h.kn u hu).2
  refine ⟨fun u hu => ⟨known_more (h.kn u hu).1 M, (h.kn u hu).2⟩, fun u hu => by rw [(e u hu).2]; exact h.lv u hu, ?_, ?_⟩
  · refine h.nf.imp (fun u hu v hv hr k => ?_)
    rw [(e u hu).1, (e u hu).2, (e v hv).1, (e v hv).2]
    exact hr k
  · refine h.eq.imp (fun u hu v hv hr huv => ?_)
    rw [(e u hu).2]
    exact hr huv

theorem txts_more {L : List Ent} (hD : DOk L) (M : List Ent) {ids : List Int} (h : ∀ u ∈ ids, isKnown L u ∧ u ≠ 0) : txts (L ++ M) ids = txts L ids := by
  unfold txts
  congr 1
  exact List.map_congr_left (fun u hu => txt_append hD M (h u hu).1)

/-- Rules are made; letters stay unique. -/
structure Gu (L L' : List Ent) (n : Nat) : Prop where
  gr : Grows L L' n
  uq : Uq L'

theorem Gu.refl {L : List Ent} (h : SOk L) (d : DOk L) (u : Uq L) : Gu L L 0 := ⟨Grows.refl h d, u⟩
theorem Gu.trans {A B C : List Ent} {m n k : Nat} (h : Gu A B m) (g : Gu B C n) (hk : m + n ≤ k) : Gu A C k := ⟨h.gr.trans g.gr hk, g.uq⟩
theorem Gu.le {A B : List Ent} {m n : Nat} (h : Gu A B m) (hk : m ≤ n) : Gu A B n := ⟨h.gr.le hk, h.uq⟩

/-- A new pair. -/
theorem pair_new {L : List Ent} (hS : SOk L) (hD : DOk L) (hU : Uq L) {x y : Int} (hx : isKnown L x) (hy : isKnown L y) (x0 : x ≠ 0) (y0 : y ≠ 0) (hm : (txt L x).length + (txt L y).length ≤ 1152921504606846976) :
    Gu L (addL L (pairEnt L x y)) 1 ∧ isKnown (addL L (pairEnt L x y)) (addI L (pairEnt L x y)) ∧ addI L (pairEnt L x y) ≠ 0 ∧
    txt (addL L (pairEnt L x y)) (addI L (pairEnt L x y)) = txt L x ++ txt L y ∧ entAt (addL L (pairEnt L x y)) (addI L (pairEnt L x y)) = pairEnt L x y ∧
    (x ≠ y → 0 ≤ klev L x → 0 ≤ klev L y → klev (addL L (pairEnt L x y)) (addI L (pairEnt L x y)) = aftI (max (klev L x) (klev L y)) (kkey L x) (kkey L y)) := by
  have l1 := txt_len hD hS _ x (Nat.le_refl _) hx
  have l2 := txt_len hD hS _ y (Nat.le_refl _) hy
  have s1 := hS.pair x y hx hy x0 y0 (by omega)
  have d1 := hD.pair x y hx hy x0 y0
  have k1 := addI_known L (pairEnt L x y)
  have e1 := ent_pair hD x y
  obtain ⟨M, hM⟩ := addL_ext L (pairEnt L x y)
  have hk : (entAt (addL L (pairEnt L x y)) (addI L (pairEnt L x y))).rule.kind = 2 := by rw [e1]; rfl
  have hl : (entAt (addL L (pairEnt L x y)) (addI L (pairEnt L x y))).rule.left = x := by rw [e1]; rfl
  have hr : (entAt (addL L (pairEnt L x y)) (addI L (pairEnt L x y))).rule.right = y := by rw [e1]; rfl
  refine ⟨⟨⟨⟨M, hM⟩, (addL_len _ _).2, s1, d1⟩, hU.pair x y⟩, k1.1, k1.2, ?_, e1, ?_⟩
  · rw [txt_pair d1 k1.1 k1.2 hk, hl, hr, hM, txt_append hD M hx, txt_append hD M hy]
  · intro hxy a b
    have h1 := (kl_pair d1 k1.1 k1.2 hk).2
    rw [hl, hr] at h1
    have ex : kkey (addL L (pairEnt L x y)) x = kkey L x ∧ klev (addL L (pairEnt L x y)) x = klev L x := by rw [hM] at d1 ⊢; exact kl_more hD M d1 _ x (Nat.le_refl _) hx x0
    have ey : kkey (addL L (pairEnt L x y)) y = kkey L y ∧ klev (addL L (pairEnt L x y)) y = klev L y := by rw [hM] at d1 ⊢; exact kl_more hD M d1 _ y (Nat.le_refl _) hy y0
    rw [h1, ex.1, ex.2, ey.1, ey.2, if_pos ⟨hxy, a, b⟩]

/-- A new power. -/
theorem pow_new {L : List Ent} (hS : SOk L) (hD : DOk L) (hU : Uq L) {x : Int} {k : Nat} (hx : isKnown L x) (x0 : x ≠ 0) (hk2 : 2 ≤ k) (hm : (txt L x).length * k ≤ 1152921504606846976) :
    Gu L (addL L (powEnt L x k)) 1 ∧ isKnown (addL L (powEnt L x k)) (addI L (powEnt L x k)) ∧ addI L (powEnt L x k) ≠ 0 ∧
    txt (addL L (powEnt L x k)) (addI L (powEnt L x k)) = reps (txt L x) k ∧ entAt (addL L (powEnt L x k)) (addI L (powEnt L x k)) = powEnt L x k ∧
    (0 ≤ klev L x → klev L x % 2 = 0 → klev (addL L (powEnt L x k)) (addI L (powEnt L x k)) = klev L x + 1) := by
  have l1 := txt_len hD hS _ x (Nat.le_refl _) hx
  have s1 := hS.pow x k hx x0 (by omega) (by rw [← l1, ← Int.natCast_mul]; omega)
  have d1 := hD.pow x k hx x0
  have k1 := addI_known L (powEnt L x k)
  have e1 := ent_pow hD x k
  obtain ⟨M, hM⟩ := addL_ext L (powEnt L x k)
  have hk : (entAt (addL L (powEnt L x k)) (addI L (powEnt L x k))).rule.kind = 3 := by rw [e1]; rfl
  have hl : (entAt (addL L (powEnt L x k)) (addI L (powEnt L x k))).rule.left = x := by rw [e1]; rfl
  have ht : (entAt (addL L (powEnt L x k)) (addI L (powEnt L x k))).rule.times = (k : Int) := by rw [e1]; rfl
  refine ⟨⟨⟨⟨M, hM⟩, (addL_len _ _).2, s1, d1⟩, hU.pw x k (by omega)⟩, k1.1, k1.2, ?_, e1, ?_⟩
  · rw [txt_pow d1 k1.1 k1.2 hk, hl, ht, hM, txt_append hD M hx]; rfl
  · intro a b
    have h1 := (kl_power d1 k1.1 k1.2 hk).2
    rw [hl] at h1
    have ex : kkey (addL L (powEnt L x k)) x = kkey L x ∧ klev (addL L (powEnt L x k)) x = klev L x := by rw [hM] at d1 ⊢; exact kl_more hD M d1 _ x (Nat.le_refl _) hx x0
    rw [h1, ex.2, if_pos ⟨a, b⟩]

/-- A pair level, on a sequence: pairs are made from the left. -/
def prL (c : Nat) : List Ent → List Int → List Ent × List Int
  | L, [] => (L, [])
  | L, [x] => (L, [x])
  | L, x :: y :: t =>
    if fitB c (kkey L x) (kkey L y) = true then ((prL c (addL L (pairEnt L x y)) t).1, addI L (pairEnt L x y) :: (prL c (addL L (pairEnt L x y)) t).2)
    else ((prL c L (y :: t)).1, x :: (prL c L (y :: t)).2)
termination_by _ l => l.length

/-- What a level leaves. -/
structure Left (L : List Ent) (ids : List Int) (l : Int) (L' : List Ent) (out : List Int) : Prop where
  gu : Gu L L' (ids.length - out.length)
  seq : SeqI L' (l + 1) out
  text : txts L' out = txts L ids
  len : out.length ≤ ids.length

theorem prL_ok {c : Nat} {l : Int} (hl : 2 ≤ l) (hl2 : l % 2 = 0) (hc : c = (l / 2 - 1).toNat % 123) : ∀ (n : Nat) (ids : List Int) (L : List Ent), ids.length ≤ n → SOk L → DOk L → Uq L → SeqI L l ids → (txts L ids).length ≤ 1152921504606846976 →
    Left L ids l (prL c L ids).1 (prL c L ids).2 ∧ (∀ x t, ids = x :: t → ∃ h s, (prL c L ids).2 = h :: s ∧ (h = x ∨ klev (prL c L ids).1 h = l)) := by
  intro n
  induction n with
  | zero =>
    intro ids L hn hS hD hU hI ht
    have : ids = [] := List.eq_nil_of_length_eq_zero (by omega)
    subst this
    rw [prL]
    exact ⟨⟨Gu.refl hS hD hU, ⟨fun u hu => by simp at hu, fun u hu => by simp at hu, trivial, trivial⟩, rfl, by simp⟩, fun x t h => by cases h⟩
  | succ n ih =>
    intro ids L hn hS hD hU hI ht
    match ids, hn, hI, ht with
    | [], hn, hI, ht =>
      rw [prL]
      exact ⟨⟨Gu.refl hS hD hU, ⟨fun u hu => by simp at hu, fun u hu => by simp at hu, trivial, trivial⟩, rfl, by simp⟩, fun x t h => by cases h⟩
    | [x], hn, hI, ht =>
      rw [prL]
      exact ⟨⟨Gu.refl hS hD hU, ⟨hI.kn, fun u hu => ⟨(hI.lv u hu).1, by have := (hI.lv u hu).2; show klev L u < l + 1; omega⟩, trivial, trivial⟩, rfl, by simp⟩, fun x' t h => by
        cases h; exact ⟨_, _, rfl, .inl rfl⟩⟩
    | x :: y :: t, hn, hI, ht =>
      have kx := hI.kn x (by simp)
      have ky := hI.kn y (by simp)
      have lx := hI.lv x (by simp)
      have ly := hI.lv y (by simp)
      have rx := kkey_rng hD kx.1 kx.2
      have ry := kkey_rng hD ky.1 ky.2
      have hne : x ≠ y := fun e => by have := (hI.eq.1 e).1; omega
      rw [txts_cons, txts_cons, List.length_append, List.length_append] at ht
      cases hf : fitB c (kkey L x) (kkey L y) with
      | true =>
        obtain ⟨g1, g2, g3, g4, g5, g6⟩ := pair_new hS hD hU kx.1 ky.1 kx.2 ky.2 (by omega)
        have hlev : klev (addL L (pairEnt L x y)) (addI L (pairEnt L x y)) = l := by
          rw [g6 hne lx.1 ly.1]
          exact aftI_eq (by omega) rx.1 rx.2 ry.1 ry.2 (by omega) ⟨hl, hl2, by rw [← hc]; exact hf⟩ (fun k k1 k2 => hI.nf.1 k k1 k2)
        rw [prL, if_pos hf]
        generalize addI L (pairEnt L x y) = i at *
        generalize addL L (pairEnt L x y) = L1 at *
        obtain ⟨M, hM⟩ := g1.gr.ext
        have hI1 : SeqI L1 l t := by
          have := g1.gr.dok
          rw [hM] at this ⊢
          exact hI.tail.tail.more hD this
        have ht1 : txts L1 t = txts L t := by rw [hM]; exact txts_more hD M hI.tail.tail.kn
        obtain ⟨q, qh⟩ := ih t L1 (by simp at hn; omega) g1.gr.sok g1.gr.dok g1.uq hI1 (by rw [ht1]; omega)
        have hq := q.len
        obtain ⟨N, hN⟩ := q.gu.gr.ext
        have hi : kkey (prL c L1 t).1 i = kkey L1 i ∧ klev (prL c L1 t).1 i = klev L1 i := by
          have := q.gu.gr.dok
          rw [hN] at this ⊢
          exact kl_more g1.gr.dok N this _ i (Nat.le_refl _) g2 g3
        have hti : txt (prL c L1 t).1 i = txt L x ++ txt L y := by rw [hN, txt_append g1.gr.dok N g2, g4]
        have hki : isKnown (prL c L1 t).1 i := by rw [hN]; exact known_more g2 N
        refine ⟨⟨g1.trans q.gu (by simp only [List.length_cons]; omega), ⟨?_, ?_, ?_, ?_⟩, ?_, by simp only [List.length_cons]; omega⟩, fun x' t' h => ?_⟩
        · intro u hu
          rcases List.mem_cons.1 hu with e | hu
          · rw [e]; exact ⟨hki, g3⟩
          · exact q.seq.kn u hu
        · intro u hu
          rcases List.mem_cons.1 hu with e | hu
          · rw [e, hi.2, hlev]; omega
          · exact q.seq.lv u hu
        · cases hout : (prL c L1 t).2 with
          | nil => trivial
          | cons h s =>
            refine ⟨fun k k1 k2 => ?_, by have := q.seq.nf; rwa [hout] at this⟩
            rw [hi.2, hlev] at k1
            omega
        · cases hout : (prL c L1 t).2 with
          | nil => trivial
          | cons h s => exact ⟨fun e => ⟨by omega, by rw [hi.2, hlev]; omega⟩, by have := q.seq.eq; rwa [hout] at this⟩
        · rw [txts_cons, hti, q.text, ht1, txts_cons, txts_cons, List.append_assoc]
        · exact ⟨i, _, rfl, .inr (hi.2.trans hlev)⟩
      | false =>
        rw [prL, if_neg (by rw [hf]; decide)]
        obtain ⟨q, qh⟩ := ih (y :: t) L (by simp at hn ⊢; omega) hS hD hU hI.tail (by rw [txts_cons, List.length_append]; omega)
        obtain ⟨h, s, hout, hh⟩ := qh y t rfl
        obtain ⟨N, hN⟩ := q.gu.gr.ext
        have hx' : kkey (prL c L (y :: t)).1 x = kkey L x ∧ klev (prL c L (y :: t)).1 x = klev L x := by
          have := q.gu.gr.dok
          rw [hN] at this ⊢
          exact kl_more hD N this _ x (Nat.le_refl _) kx.1 kx.2
        have hy' : kkey (prL c L (y :: t)).1 y = kkey L y ∧ klev (prL c L (y :: t)).1 y = klev L y := by
          have := q.gu.gr.dok
          rw [hN] at this ⊢
          exact kl_more hD N this _ y (Nat.le_refl _) ky.1 ky.2
        have htx : txt (prL c L (y :: t)).1 x = txt L x := by rw [hN]; exact txt_append hD N kx.1
        have hkx : isKnown (prL c L (y :: t)).1 x := by rw [hN]; exact known_more kx.1 N
        have hql := q.len
        refine ⟨⟨q.gu.le (by simp only [List.length_cons] at hql ⊢; omega), ⟨?_, ?_, ?_, ?_⟩, ?_, by simp only [List.length_cons] at hql ⊢; omega⟩, fun x' t' e => ⟨x, _, rfl, .inl (by cases e; rfl)⟩⟩
        · intro u hu
          rcases List.mem_cons.1 hu with e | hu
          · rw [e]; exact ⟨hkx, kx.2⟩
          · exact q.seq.kn u hu
        · intro u hu
          rcases List.mem_cons.1 hu with e | hu
          · rw [e, hx'.2]; omega
          · exact q.seq.lv u hu
        · have hs := q.seq.nf
          rw [hout] at hs ⊢
          refine ⟨fun k k1 k2 => ?_, hs⟩
          rcases hh with hh | hh
          · rw [hh] at k1 ⊢
            rw [hx'.2, hy'.2] at k1
            rw [hx'.1, hy'.1]
            by_cases e : k = l
            · rintro ⟨_, _, k5⟩
              rw [e, ← hc, hf] at k5
              cases k5
            · exact hI.nf.1 k k1 (by omega)
          · rw [hh] at k1
            omega
        · have hs := q.seq.eq
          rw [hout] at hs ⊢
          refine ⟨fun e => ?_, hs⟩
          exfalso
          rcases hh with hh | hh
          · exact hne (e.trans hh)
          · rw [← e, hx'.2] at hh
            omega
        · rw [txts_cons, htx, q.text, ← txts_cons]

/-- Nothing made: nothing changed, and no neighbours fit. -/
theorem prL_same {c : Nat} : ∀ (n : Nat) (ids : List Int) (L : List Ent), ids.length ≤ n → (prL c L ids).2.length ≤ ids.length ∧
    ((prL c L ids).2.length = ids.length → prL c L ids = (L, ids) ∧ Adj (fun u v => fitB c (kkey L u) (kkey L v) = false) ids) := by
  intro n
  induction n with
  | zero =>
    intro ids L hn
    have : ids = [] := List.eq_nil_of_length_eq_zero (by omega)
    subst this
    rw [prL]
    exact ⟨Nat.le_refl _, fun _ => ⟨rfl, trivial⟩⟩
  | succ n ih =>
    intro ids L hn
    match ids, hn with
    | [], hn => rw [prL]; exact ⟨Nat.le_refl _, fun _ => ⟨rfl, trivial⟩⟩
    | [x], hn => rw [prL]; exact ⟨Nat.le_refl _, fun _ => ⟨rfl, trivial⟩⟩
    | x :: y :: t, hn =>
      cases hf : fitB c (kkey L x) (kkey L y) with
      | true =>
        rw [prL, if_pos hf]
        have := (ih t (addL L (pairEnt L x y)) (by simp at hn; omega)).1
        simp only [List.length_cons]
        exact ⟨by omega, fun h => by omega⟩
      | false =>
        rw [prL, if_neg (by rw [hf]; decide)]
        have := ih (y :: t) L (by simp at hn ⊢; omega)
        simp only [List.length_cons] at this ⊢
        refine ⟨by omega, fun h => ?_⟩
        obtain ⟨k1, k2⟩ := this.2 (by omega)
        rw [k1]
        exact ⟨rfl, hf, k2⟩

/-- The maximal runs. -/
def rle : List Int → List (Int × Nat)
  | [] => []
  | x :: l => match rle l with
    | [] => [(x, 1)]
    | (y, k) :: g => if x = y then (y, k + 1) :: g else (x, 1) :: (y, k) :: g

/-- A run level, on the runs of a sequence. -/
def rnL : List Ent → List (Int × Nat) → List Ent × List Int
  | L, [] => (L, [])
  | L, (x, k) :: g =>
    if 1 < k then ((rnL (addL L (powEnt L x k)) g).1, addI L (powEnt L x k) :: (rnL (addL L (powEnt L x k)) g).2)
    else ((rnL L g).1, x :: (rnL L g).2)

/-- The sequence of runs. -/
def unr (g : List (Int × Nat)) : List Int := (g.map fun p => List.replicate p.2 p.1).flatten

theorem unr_cons (x : Int) (k : Nat) (g : List (Int × Nat)) : unr ((x, k) :: g) = List.replicate k x ++ unr g := by simp [unr]

/-- Runs: none is empty, neighbours differ. -/
def RunsOk : List (Int × Nat) → Prop
  | [] => True
  | [p] => 1 ≤ p.2
  | p :: q :: g => 1 ≤ p.2 ∧ p.1 ≠ q.1 ∧ RunsOk (q :: g)

theorem RunsOk.tail {p : Int × Nat} : ∀ {g : List (Int × Nat)}, RunsOk (p :: g) → RunsOk g
  | [], _ => trivial
  | _ :: _, h => h.2.2
theorem RunsOk.pos {p : Int × Nat} : ∀ {g : List (Int × Nat)}, RunsOk (p :: g) → 1 ≤ p.2
  | [], h => h
  | _ :: _, h => h.1

theorem rle_ok : ∀ l : List Int, RunsOk (rle l) ∧ unr (rle l) = l ∧ (rle l).length ≤ l.length ∧ ((rle l).length = l.length → ∀ p ∈ rle l, p.2 = 1)
  | [] => ⟨trivial, rfl, Nat.le_refl _, fun _ p hp => by simp [rle] at hp⟩
  | x :: l => by
    obtain ⟨h1, h2, h3, h4⟩ := rle_ok l
    unfold rle
    cases hr : rle l with
    | nil =>
      rw [hr] at h2
      have hl : l = [] := by rw [← h2]; rfl
      subst hl
      exact ⟨Nat.le_refl _, rfl, Nat.le_refl _, fun _ p hp => by simp at hp; rw [hp]⟩
    | cons q g =>
      obtain ⟨y, k⟩ := q
      rw [hr] at h1 h2 h3 h4
      dsimp only
      by_cases c : x = y
      · rw [if_pos c]
        refine ⟨?_, ?_, ?_, ?_⟩
        · cases g with
          | nil => show 1 ≤ k + 1; omega
          | cons q' g' => exact ⟨by show 1 ≤ k + 1; omega, h1.2.1, h1.2.2⟩
        · rw [unr_cons, List.replicate_succ, List.cons_append, ← unr_cons, h2, c]
        · simp only [List.length_cons] at h3 ⊢; omega
        · intro h; simp only [List.length_cons] at h3 h; omega
      · rw [if_neg c]
        refine ⟨⟨Nat.le_refl _, c, h1⟩, ?_, ?_, ?_⟩
        · rw [unr_cons, h2]; rfl
        · simp only [List.length_cons] at h3 ⊢; omega
        · intro h p hp
          rcases List.mem_cons.1 hp with e | hp
          · rw [e]
          · exact h4 (by simp only [List.length_cons] at h ⊢; omega) p hp

theorem reps_replicate (a : List Int) : ∀ k : Nat, reps a k = (List.replicate k a).flatten
  | 0 => rfl
  | k + 1 => by rw [List.replicate_succ, List.flatten_cons, ← reps_replicate a k]; rfl

theorem txts_append (L : List Ent) (a b : List Int) : txts L (a ++ b) = txts L a ++ txts L b := by simp [txts]

theorem txts_replicate (L : List Ent) (x : Int) (k : Nat) : txts L (List.replicate k x) = reps (txt L x) k := by
  rw [reps_replicate]; unfold txts; rw [List.map_replicate]

theorem SeqI.drop {L : List Ent} {l x : Int} {ids : List Int} : ∀ {k : Nat}, SeqI L l (List.replicate k x ++ ids) → SeqI L l ids
  | 0, h => h
  | k + 1, h => SeqI.drop (k := k) (by rw [List.replicate_succ, List.cons_append] at h; exact h.tail)

theorem rnL_ok {l : Int} (hl : 1 ≤ l) (hl2 : l % 2 = 1) : ∀ (g : List (Int × Nat)) (L : List Ent), RunsOk g → SOk L → DOk L → Uq L → SeqI L l (unr g) → (txts L (unr g)).length ≤ 1152921504606846976 →
    Left L (unr g) l (rnL L g).1 (rnL L g).2 ∧ (rnL L g).2.length = g.length ∧
    (∀ x k t, g = (x, k) :: t → ∃ h s, (rnL L g).2 = h :: s ∧ ((h = x ∧ k = 1) ∨ (klev (rnL L g).1 h = l ∧ (entAt (rnL L g).1 h).rule.kind = 3 ∧ (entAt (rnL L g).1 h).rule.left = x))) := by
  intro g
  induction g with
  | nil =>
    intro L _ hS hD hU hI ht
    exact ⟨⟨Gu.refl hS hD hU, ⟨fun u hu => by simp [rnL] at hu, fun u hu => by simp [rnL] at hu, trivial, trivial⟩, rfl, by simp [rnL]⟩, rfl, fun x k t h => by cases h⟩
  | cons p g ih =>
    obtain ⟨x, k⟩ := p
    intro L hr hS hD hU hI ht
    have hk1 : 1 ≤ k := hr.pos
    have hmem : x ∈ unr ((x, k) :: g) := by
      rw [unr_cons]; exact List.mem_append_left _ (List.mem_replicate.2 ⟨by omega, rfl⟩)
    have kx := hI.kn x hmem
    have lx := hI.lv x hmem
    have hIg : SeqI L l (unr g) := by rw [unr_cons] at hI; exact hI.drop
    rw [unr_cons, txts_append, txts_replicate, List.length_append, reps_len] at ht
    by_cases c : 1 < k
    · -- a new power
      have hxl : klev L x = l - 1 := by
        obtain ⟨k', rfl⟩ : ∃ k', k = k' + 2 := ⟨k - 2, by omega⟩
        have he := hI.eq
        rw [unr_cons, List.replicate_succ, List.replicate_succ] at he
        exact (he.1 rfl).2
      obtain ⟨g1, g2, g3, g4, g5, g6⟩ := pow_new hS hD hU kx.1 kx.2 (by omega : 2 ≤ k) (by rw [Nat.mul_comm]; exact Nat.le_trans (Nat.le_add_right _ _) ht)
      have hlev : klev (addL L (powEnt L x k)) (addI L (powEnt L x k)) = l := by rw [g6 lx.1 (by omega)]; omega
      have hkind : (entAt (addL L (powEnt L x k)) (addI L (powEnt L x k))).rule.kind = 3 ∧ (entAt (addL L (powEnt L x k)) (addI L (powEnt L x k))).rule.left = x := by rw [g5]; exact ⟨rfl, rfl⟩
      rw [rnL, if_pos c]
      generalize addI L (powEnt L x k) = i at *
      generalize addL L (powEnt L x k) = L1 at *
      obtain ⟨M, hM⟩ := g1.gr.ext
      have hI1 : SeqI L1 l (unr g) := by
        have := g1.gr.dok
        rw [hM] at this ⊢
        exact hIg.more hD this
      have ht1 : txts L1 (unr g) = txts L (unr g) := by rw [hM]; exact txts_more hD M hIg.kn
      obtain ⟨q, ql, qh⟩ := ih L1 hr.tail g1.gr.sok g1.gr.dok g1.uq hI1 (by rw [ht1]; omega)
      have hq := q.len
      obtain ⟨N, hN⟩ := q.gu.gr.ext
      have hi : kkey (rnL L1 g).1 i = kkey L1 i ∧ klev (rnL L1 g).1 i = klev L1 i := by
        have := q.gu.gr.dok
        rw [hN] at this ⊢
        exact kl_more g1.gr.dok N this _ i (Nat.le_refl _) g2 g3
      have hent : entAt (rnL L1 g).1 i = entAt L1 i := by rw [hN]; exact entAt_append L1 N i g2
      have hti : txt (rnL L1 g).1 i = reps (txt L x) k := by rw [hN, txt_append g1.gr.dok N g2, g4]
      have hki : isKnown (rnL L1 g).1 i := by rw [hN]; exact known_more g2 N
      refine ⟨⟨g1.trans q.gu (by rw [unr_cons]; simp only [List.length_append, List.length_replicate, List.length_cons]; omega), ⟨?_, ?_, ?_, ?_⟩, ?_, by rw [unr_cons]; simp only [List.length_append, List.length_replicate, List.length_cons]; omega⟩, by simp only [List.length_cons, ql], fun x' k' t' e => ?_⟩
      · intro u hu
        rcases List.mem_cons.1 hu with e | hu
        · rw [e]; exact ⟨hki, g3⟩
        · exact q.seq.kn u hu
      · intro u hu
        rcases List.mem_cons.1 hu with e | hu
        · rw [e, hi.2, hlev]; omega
        · exact q.seq.lv u hu
      · cases hout : (rnL L1 g).2 with
        | nil => trivial
        | cons h s =>
          refine ⟨fun k k1 k2 => ?_, by have := q.seq.nf; rwa [hout] at this⟩
          rw [hi.2, hlev] at k1
          omega
      · cases hg : g with
        | nil => simp [rnL]; trivial
        | cons p' g' =>
          obtain ⟨x2, k2⟩ := p'
          obtain ⟨h, s, hout, hh⟩ := qh x2 k2 g' hg
          rw [hg] at hout hh hent hi
          rw [hout]
          have hs := q.seq.eq
          rw [hg, hout] at hs
          refine ⟨fun e => ?_, hs⟩
          exfalso
          have hx2 : x ≠ x2 := by rw [hg] at hr; exact hr.2.1
          have hk2 := hIg.lv x2 (by rw [hg, unr_cons]; exact List.mem_append_left _ (List.mem_replicate.2 ⟨by have := hr.tail; rw [hg] at this; have := this.pos; omega, rfl⟩))
          have hk2' := hI1.lv x2 (by rw [hg, unr_cons]; exact List.mem_append_left _ (List.mem_replicate.2 ⟨by have := hr.tail; rw [hg] at this; have := this.pos; omega, rfl⟩))
          rcases hh with ⟨e1, _⟩ | ⟨e1, e2, e3⟩
          · rw [e1] at e
            rw [e] at hlev
            omega
          · rw [← e, hent, hkind.2] at e3
            exact hx2 e3
      · rw [txts_cons, hti, q.text, ht1, unr_cons, txts_append, txts_replicate]
      · cases e
        exact ⟨i, _, rfl, .inr ⟨hi.2.trans hlev, by rw [hent]; exact hkind.1, by rw [hent]; exact hkind.2⟩⟩
    · have hk : k = 1 := by omega
      subst hk
      rw [rnL, if_neg c]
      obtain ⟨q, ql, qh⟩ := ih L hr.tail hS hD hU hIg (by omega)
      obtain ⟨N, hN⟩ := q.gu.gr.ext
      have hx' : kkey (rnL L g).1 x = kkey L x ∧ klev (rnL L g).1 x = klev L x := by
        have := q.gu.gr.dok
        rw [hN] at this ⊢
        exact kl_more hD N this _ x (Nat.le_refl _) kx.1 kx.2
      have htx : txt (rnL L g).1 x = txt L x := by rw [hN]; exact txt_append hD N kx.1
      have hkx : isKnown (rnL L g).1 x := by rw [hN]; exact known_more kx.1 N
      have hql := q.len
      have hone : unr ((x, 1) :: g) = x :: unr g := by rw [unr_cons]; rfl
      refine ⟨⟨q.gu.le (by rw [hone]; simp only [List.length_cons]; omega), ⟨?_, ?_, ?_, ?_⟩, ?_, by rw [hone]; simp only [List.length_cons]; omega⟩, by simp only [List.length_cons, ql], fun x' k' t' e => by cases e; exact ⟨x, _, rfl, .inl ⟨rfl, rfl⟩⟩⟩
      · intro u hu
        rcases List.mem_cons.1 hu with e | hu
        · rw [e]; exact ⟨hkx, kx.2⟩
        · exact q.seq.kn u hu
      · intro u hu
        rcases List.mem_cons.1 hu with e | hu
        · rw [e, hx'.2]; omega
        · exact q.seq.lv u hu
      · cases hg : g with
        | nil => simp [rnL]; trivial
        | cons p' g' =>
          obtain ⟨x2, k2⟩ := p'
          obtain ⟨h, s, hout, hh⟩ := qh x2 k2 g' hg
          have hs := q.seq.nf
          rw [hg] at hout hh hx'
          rw [hg, hout] at hs
          rw [hout]
          refine ⟨fun k k1 k3 => ?_, hs⟩
          rcases hh with ⟨e1, e2⟩ | ⟨e1, _⟩
          · subst e1 e2
            have m2 : h ∈ unr g := by rw [hg, unr_cons]; exact List.mem_append_left _ (List.mem_replicate.2 ⟨by omega, rfl⟩)
            have hh' : kkey (rnL L g).1 h = kkey L h ∧ klev (rnL L g).1 h = klev L h := by
              have := q.gu.gr.dok
              rw [hN] at this ⊢
              exact kl_more hD N this _ h (Nat.le_refl _) (hIg.kn h m2).1 (hIg.kn h m2).2
            rw [hg] at hh'
            rw [hx'.2, hh'.2] at k1
            rw [hx'.1, hh'.1]
            by_cases ek : k = l
            · rintro ⟨_, k5, _⟩
              omega
            · have hn := hI.nf
              rw [hone, hg, unr_cons] at hn
              exact hn.1 k k1 (by omega)
          · rw [e1] at k1
            omega
      · cases hg : g with
        | nil => simp [rnL]; trivial
        | cons p' g' =>
          obtain ⟨x2, k2⟩ := p'
          obtain ⟨h, s, hout, hh⟩ := qh x2 k2 g' hg
          have hs := q.seq.eq
          rw [hg] at hout hh hx'
          rw [hg, hout] at hs
          rw [hout]
          refine ⟨fun e => ?_, hs⟩
          exfalso
          have hx2 : x ≠ x2 := by rw [hg] at hr; exact hr.2.1
          rcases hh with ⟨e1, _⟩ | ⟨e1, _⟩
          · exact hx2 (e.trans e1)
          · rw [← e, hx'.2] at e1
            omega
      · rw [txts_cons, htx, q.text, hone, txts_cons]

/-- Where no run is longer than one, nothing changes. -/
theorem rnL_same : ∀ (g : List (Int × Nat)) (L : List Ent), (∀ p ∈ g, p.2 = 1) → rnL L g = (L, unr g)
  | [], L, _ => rfl
  | (x, k) :: g, L, h => by
    have hk : k = 1 := h (x, k) (by simp)
    subst hk
    rw [rnL, if_neg (by omega), rnL_same g L (fun p hp => h p (List.mem_cons_of_mem _ hp)), unr_cons]
    rfl

end Go.Proofs.YtodmpcnpedpheaaDoor

/- Levels (plain): one level after the other, until one symbol is left. -/
set_option linter.unusedSimpArgs false
set_option linter.unusedVariables false
namespace Go.Proofs.YtodmpcnpedpheaaDoor
open Go.RowKit

/-- One level. -/
def lvL (l : Int) (L : List Ent) (ids : List Int) : List Ent × List Int := if l % 2 = 1 then rnL L (rle ids) else prL ((l / 2 - 1).toNat % 123) L ids

theorem lvL_ok {l : Int} (hl : 1 ≤ l) {L : List Ent} {ids : List Int} (hS : SOk L) (hD : DOk L) (hU : Uq L) (hI : SeqI L l ids) (ht : (txts L ids).length ≤ 1152921504606846976) :
    Left L ids l (lvL l L ids).1 (lvL l L ids).2 ∧ (ids ≠ [] → (lvL l L ids).2 ≠ []) := by
  unfold lvL
  split
  · rename_i h
    obtain ⟨r1, r2, r3, r4⟩ := rle_ok ids
    have q := rnL_ok hl h (rle ids) L r1 hS hD hU (by rw [r2]; exact hI) (by rw [r2]; exact ht)
    rw [r2] at q
    refine ⟨q.1, fun hne => ?_⟩
    cases hr : rle ids with
    | nil => rw [hr] at r2; exact absurd r2.symm hne
    | cons p g =>
      obtain ⟨h', s, e, _⟩ := q.2.2 p.1 p.2 g hr
      rw [hr] at e
      rw [e]; simp
  · rename_i h
    have q := prL_ok (c := (l / 2 - 1).toNat % 123) (l := l) (by omega) (by omega) rfl _ ids L (Nat.le_refl _) hS hD hU hI ht
    refine ⟨q.1, fun hne => ?_⟩
    cases ids with
    | nil => exact absurd rfl hne
    | cons x t =>
      obtain ⟨h', s, e, _⟩ := q.2 x t rfl
      rw [e]; simp

/-- How much there is to do. -/
def meas (l : Int) (L : List Ent) : List Int → Nat
  | x :: y :: t => (t.length + 2) * 1000 + (aftI (l - 1) (kkey L x) (kkey L y) - l).toNat
  | [_] => 1000
  | [] => 0

theorem meas_le {l : Int} (hl : 1 ≤ l) {L : List Ent} (hD : DOk L) : ∀ {ids : List Int}, (∀ u ∈ ids, isKnown L u ∧ u ≠ 0) → ids.length * 1000 ≤ meas l L ids ∧ meas l L ids ≤ ids.length * 1000 + 500
  | [], _ => by simp [meas]
  | [_], _ => by simp [meas]
  | x :: y :: t, h => by
    have kx := h x (by simp)
    have ky := h y (by simp)
    have rx := kkey_rng hD kx.1 kx.2
    have ry := kkey_rng hD ky.1 ky.2
    have a := aftI_spec (low := l - 1) (by omega) rx.1 rx.2 ry.1 ry.2
    have a1 := a.1
    have a2 := a.2.1
    simp only [meas, List.length_cons]
    omega

/-- Every level brings the end nearer. -/
theorem meas_lt {l : Int} (hl : 1 ≤ l) {L : List Ent} {ids : List Int} (hS : SOk L) (hD : DOk L) (hU : Uq L) (hI : SeqI L l ids) (ht : (txts L ids).length ≤ 1152921504606846976) (h2 : 1 < ids.length) :
    meas (l + 1) (lvL l L ids).1 (lvL l L ids).2 < meas l L ids := by
  have q := (lvL_ok hl hS hD hU hI ht).1
  have m1 := meas_le (l := l + 1) (by omega) q.gu.gr.dok q.seq.kn
  have m2 := meas_le hl hD hI.kn
  have hle := q.len
  by_cases c : (lvL l L ids).2.length = ids.length
  · have hsame : lvL l L ids = (L, ids) ∧ ∀ x y t, ids = x :: y :: t → ¬ fitL l (kkey L x) (kkey L y) := by
      unfold lvL at c ⊢
      split at c
      · rename_i ho
        rw [if_pos ho]
        obtain ⟨r1, r2, r3, r4⟩ := rle_ok ids
        have k := rnL_ok hl ho (rle ids) L r1 hS hD hU (by rw [r2]; exact hI) (by rw [r2]; exact ht)
        rw [k.2.1] at c
        refine ⟨by rw [rnL_same _ _ (r4 c), r2], fun x y t _ => ?_⟩
        rintro ⟨_, k2, _⟩
        omega
      · rename_i ho
        rw [if_neg ho]
        obtain ⟨k1, k2⟩ := (prL_same (c := (l / 2 - 1).toNat % 123) _ ids L (Nat.le_refl _)).2 c
        refine ⟨k1, fun x y t e => ?_⟩
        rintro ⟨_, _, k3⟩
        rw [e] at k2
        have := k2.1
        rw [this] at k3
        cases k3
    obtain ⟨e1, e2⟩ := hsame
    rw [e1]
    obtain ⟨x, y, t, rfl⟩ : ∃ x y t, ids = x :: y :: t := by
      cases ids with
      | nil => simp at h2
      | cons x s => cases s with
        | nil => simp at h2
        | cons y t => exact ⟨x, y, t, rfl⟩
    have kx := hI.kn x (by simp)
    have ky := hI.kn y (by simp)
    have rx := kkey_rng hD kx.1 kx.2
    have ry := kkey_rng hD ky.1 ky.2
    obtain ⟨a1, a2, a3, a4⟩ := aftI_spec (low := l - 1) (by omega) rx.1 rx.2 ry.1 ry.2
    have hne : aftI (l - 1) (kkey L x) (kkey L y) ≠ l := fun e => e2 x y t rfl (by rw [e] at a3; exact a3)
    have he : aftI l (kkey L x) (kkey L y) = aftI (l - 1) (kkey L x) (kkey L y) :=
      aftI_eq (by omega) rx.1 rx.2 ry.1 ry.2 (by omega) a3 (fun k k1 k2 => a4 k (by omega) k2)
    simp only [meas]
    rw [show l + 1 - 1 = l by omega, he]
    omega
  · omega

end Go.Proofs.YtodmpcnpedpheaaDoor

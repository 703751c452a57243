/- The walks of modular.Mix and of keys.number, Number, fitting, after. -/
import Derived.Test.YtgldjpldldknoaaGreatDoorRTz
import Derived.Test.YtgldjpldldknoaaGreatDoorRKy0
import Derived.Test.YtgldjpldldknoaaGreatDoorRBase
set_option linter.unusedSimpArgs false
set_option linter.unusedVariables false
namespace Go.Proofs.YtgldjpldldknoaaGreatDoor
open Go.RowKit
set_option maxRecDepth 100000 in
set_option maxHeartbeats 800000 in
theorem mod_Mix (k x y : Int) (hk : 0 ≤ k) (hk' : k < 18446744073709551616) (hx : 0 ≤ x) (hx' : x < 18446744073709551616) (hy : 0 ≤ y) (hy' : y < 18446744073709551616) (w : World) :
    Calls Tryz.prog 143 #[.int .u64 k, .int .u64 x, .int .u64 y] w fun e w' => e = .returned (.int .u64 (mixI k x y)) ∧ Fr0 w w' := by
 have e : mixI k x y = ((k + (1234567890123456789 * x % PP + 987654321987654321 * y % PP) % PP) % PP) ^ 17 % PP := rfl
 have c1 := fun w => calls_sym (mod_Mul 1234567890123456789 x (by omega) (by omega) hx hx' w)
 have c2 := fun w => calls_sym (mod_Mul 987654321987654321 y (by omega) (by omega) hy hy' w)
 have b1 := pp_lt (1234567890123456789 * x)
 have b2 := pp_lt (987654321987654321 * y)
 generalize 1234567890123456789 * x % PP = a at *
 generalize 987654321987654321 * y % PP = b at *
 have c3 := fun w => calls_sym (mod_Add a b b1.1 (by omega) b2.1 (by omega) w)
 have b3 := pp_lt (a + b)
 generalize (a + b) % PP = c at *
 have c4 := fun w => calls_sym (mod_Add k c hk hk' b3.1 (by omega) w)
 have b4 := pp_lt (k + c)
 generalize (k + c) % PP = d at *
 have c5 := fun w => calls_sym (mod_Pow d 17 b4.1 (by omega) (by omega) w)
 have HE := Lib.hid e
 clear e b1 b2 b3 b4
 have C1 := Lib.hid c1
 have C2 := Lib.hid c2
 have C3 := Lib.hid c3
 have C4 := Lib.hid c4
 have C5 := Lib.hid c5
 clear c1 c2 c3 c4 c5
 go_enter Tryz.func143, Tryz.ntmps143
 go_wp2_with fail
 refine (C1.out _).mono ?_
 rintro e w' ⟨rfl, rfl⟩
 go_wp2_with fail
 refine (C2.out _).mono ?_
 rintro e w' ⟨rfl, rfl⟩
 go_wp2_with fail
 refine (C3.out _).mono ?_
 rintro e w' ⟨rfl, rfl⟩
 go_wp2_with fail
 refine (C4.out _).mono ?_
 rintro e w' ⟨rfl, rfl⟩
 go_wp2_with fail
 refine (C5.out _).mono ?_
 rintro e w' ⟨rfl, rfl⟩
 go_wp2_with fail
 go_ret
 exact ⟨congrArg (fun i => Ending.returned (.int .u64 i)) HE.out.symm, by repeat (first | exact Fr0.refl _ | refine Fr0.alloc ?_ _ | refine Fr0.drew ?_)⟩
theorem bit1 {x k : Nat} (hx : x < 18446744073709551616) : bits .and .u64 ((x : Int) / 2 ^ k) 1 = (((x.testBit k).toNat : Nat) : Int) := by
 have e : (x : Int) / 2 ^ k = ((x / 2 ^ k : Nat) : Int) := by simp
 have hlt : x / 2 ^ k < 18446744073709551616 := Nat.lt_of_le_of_lt (Nat.div_le_self _ _) hx
 rw [e]
 have h := bits_and_u64_nat (x / 2 ^ k) 1 hlt (by omega)
 have e2 : x / 2 ^ k &&& 1 = x / 2 ^ k % 2 := Nat.and_two_pow_sub_one_eq_mod _ 1
 rw [e2] at h
 rw [show (1 : Int) = ((1 : Nat) : Int) from rfl, h, Nat.testBit_eq_decide_div_mod_eq]
 rcases Nat.mod_two_eq_zero_or_one (x / 2 ^ k) with g | g <;> rw [g] <;> rfl
theorem difB_prog {x y k : Nat} (hx : x < 2305843009213693951) (hy : y < 2305843009213693951) :
    IntKind.u64.wrap (bits .and .u64 (bits .xor .u64 (x : Int) y) 2305843009213693951 / 2 ^ k * 2 ^ k) = ((difB x y k : Nat) : Int) := by
 have h1 := bits_xor_u64_nat x y (by omega) (by omega)
 have hlt : x ^^^ y < 18446744073709551616 := by
  have := Nat.xor_lt_two_pow (x := x) (y := y) (n := 64) (by omega) (by omega)
  omega
 have h2 := bits_and_u64_nat (x ^^^ y) 2305843009213693951 hlt (by omega)
 have h3 := difB_lt x y k
 rw [h1, show (2305843009213693951 : Int) = ((2305843009213693951 : Nat) : Int) from rfl, h2, IntKind.wrap_u64]
 have e : (((x ^^^ y) &&& 2305843009213693951 : Nat) : Int) / 2 ^ k * 2 ^ k = ((difB x y k : Nat) : Int) := by
  unfold difB; simp
 rw [e]
 omega
theorem fit_wrap {t : Nat} (ht : t < 61) (b : Bool) : wrap64 (2 * (t : Int) + wrap64 (b.toNat : Int)) = 2 * (t : Int) + (if b then 1 else 0) := by
 cases b
 · simp [wrap64]; omega
 · simp [wrap64]; omega
theorem difC_prog {x y k : Nat} (hk : k < 61) : bits .andNot .u64 ((difB x y k : Nat) : Int) (IntKind.u64.wrap (2 ^ k)) = ((difC x y k : Nat) : Int) := by
 have h3 := difB_lt x y k
 have hp : 2 ^ k < 18446744073709551616 := by
  have := Nat.pow_lt_pow_right (a := 2) (by decide) (show k < 64 by omega)
  omega
 have e : IntKind.u64.wrap (2 ^ k) = ((2 ^ k : Nat) : Int) := by
  rw [IntKind.wrap_u64]
  have : ((2 : Int) ^ k) = ((2 ^ k : Nat) : Int) := by simp
  rw [this]
  generalize 2 ^ k = z at *
  omega
 rw [e, u64_andNot_nat _ _ (by omega) hp]
 rfl
set_option maxRecDepth 100000 in
set_option maxHeartbeats 800000 in
theorem keys_fitting (c x y : Nat) (hc : c ≤ 122) (hx : x < 2305843009213693951) (hy : y < 2305843009213693951) (w : World) (hT : TabAt 0 Lib.deBruijn64tab w) :
    Calls Tryz.prog 150 #[.int .i64 c, .int .u64 x, .int .u64 y] w fun e w' => e = .returned (.int .i64 (fitI c (x : Int) y)) ∧ Fr0 w w' := by
 by_cases h : x = y
 · subst h
   have HE := Lib.hid (fitI_same hc (x : Int) (by omega))
   go_enter Tryz.func150, Tryz.ntmps150
   go_wp2_with fail
   go_ret
   exact ⟨congrArg (fun i => Ending.returned (.int .i64 i)) HE.out.symm, by repeat (first | exact Fr0.refl _ | refine Fr0.alloc ?_ _ | refine Fr0.drew ?_)⟩
 · have hne : ((x : Int) == (y : Int)) = false := beq_eq_false_iff_ne.2 (by omega)
   by_cases h2 : c = 122
   · subst h2
     have HE := Lib.hid (fitI_tie (x := (x : Int)) (y := y) (by omega))
     go_enter Tryz.func150, Tryz.ntmps150
     go_wp2_with fail
     go_ret
     exact ⟨congrArg (fun i => Ending.returned (.int .i64 i)) HE.out.symm, by repeat (first | exact Fr0.refl _ | refine Fr0.alloc ?_ _ | refine Fr0.drew ?_)⟩
   · have hne2 : ((c : Int) == 122) = false := beq_eq_false_iff_ne.2 (by omega)
     have hD := difB_prog (x := x) (y := y) (k := c / 2) hx hy
     have hN := difC_prog (x := x) (y := y) (k := c / 2) (by omega)
     have hb := bit1 (x := x) (k := c / 2) (by omega)
     have HB := Lib.hid (fitI_bits hx hy h (show c < 122 by omega))
     have hl1 := difB_lt x y (c / 2)
     have hl2 := difC_lt x y (c / 2)
     by_cases hc2 : c % 2 = 1
     · have hq : ((c : Int) % 2 == 1) = true := beq_iff_eq.2 (by omega)
       cases hx2 : x.testBit (c / 2) with
       | false =>
        have HEQ : Hid (difD c x y = difC x y (c / 2)) := by show _ = _; unfold difD; rw [if_pos ⟨hc2, hx2⟩]
        rw [hx2] at hb
        have HLT := Lib.hid hl2
        have CT := Lib.hid (Tryz.bits_TrailingZeros64 (difC x y (c / 2)) (by have := HLT.out; omega) w (fun _ => hT))
        by_cases hz : difC x y (c / 2) = 0
        · have q9 : (((difC x y (c / 2) : Nat) : Int) == 0) = true := by rw [hz]; rfl
          have HE := Lib.hid (HB.out.1 (HEQ.out.trans hz))
          clear hz
          go_enter Tryz.func150, Tryz.ntmps150
          go_wp2_with (simp only [hD, hN, hb, hq])
          go_ret
          exact ⟨congrArg (fun i => Ending.returned (.int .i64 i)) HE.out.symm, by repeat (first | exact Fr0.refl _ | refine Fr0.alloc ?_ _ | refine Fr0.drew ?_)⟩
        · have q9 : (((difC x y (c / 2) : Nat) : Int) == 0) = false := beq_eq_false_iff_ne.2 (by omega)
          have HE := Lib.hid (HB.out.2 (fun e => hz (HEQ.out.symm.trans e)))
          rw [HEQ.out] at HE
          clear hz
          obtain ⟨g1, g2⟩ := HE.out
          have HG := Lib.hid g2
          have hb2 := bit1 (x := x) (k := Lib.ctz 64 (difC x y (c / 2))) (by omega)
          clear g2 HE
          generalize Lib.ctz 64 (difC x y (c / 2)) = t at *
          go_enter Tryz.func150, Tryz.ntmps150
          go_wp2_with (first | simp only [hD, hN, hb, hq] | fail)
          refine CT.out.mono ?_
          rintro e w' ⟨rfl, rfl⟩
          go_wp2_with (simp only [hb2])
          go_ret
          exact ⟨congrArg (fun i => Ending.returned (.int .i64 i)) ((fit_wrap g1 _).trans HG.out.symm), by repeat (first | exact Fr0.refl _ | refine Fr0.alloc ?_ _ | refine Fr0.drew ?_)⟩
       | true =>
        have HEQ : Hid (difD c x y = difB x y (c / 2)) := by show _ = _; unfold difD; rw [if_neg (by rw [hx2]; simp)]
        rw [hx2] at hb
        have HLT := Lib.hid hl1
        have CT := Lib.hid (Tryz.bits_TrailingZeros64 (difB x y (c / 2)) (by have := HLT.out; omega) w (fun _ => hT))
        by_cases hz : difB x y (c / 2) = 0
        · have q9 : (((difB x y (c / 2) : Nat) : Int) == 0) = true := by rw [hz]; rfl
          have HE := Lib.hid (HB.out.1 (HEQ.out.trans hz))
          clear hz
          go_enter Tryz.func150, Tryz.ntmps150
          go_wp2_with (simp only [hD, hN, hb, hq])
          go_ret
          exact ⟨congrArg (fun i => Ending.returned (.int .i64 i)) HE.out.symm, by repeat (first | exact Fr0.refl _ | refine Fr0.alloc ?_ _ | refine Fr0.drew ?_)⟩
        · have q9 : (((difB x y (c / 2) : Nat) : Int) == 0) = false := beq_eq_false_iff_ne.2 (by omega)
          have HE := Lib.hid (HB.out.2 (fun e => hz (HEQ.out.symm.trans e)))
          rw [HEQ.out] at HE
          clear hz
          obtain ⟨g1, g2⟩ := HE.out
          have HG := Lib.hid g2
          have hb2 := bit1 (x := x) (k := Lib.ctz 64 (difB x y (c / 2))) (by omega)
          clear g2 HE
          generalize Lib.ctz 64 (difB x y (c / 2)) = t at *
          go_enter Tryz.func150, Tryz.ntmps150
          go_wp2_with (first | simp only [hD, hN, hb, hq] | fail)
          refine CT.out.mono ?_
          rintro e w' ⟨rfl, rfl⟩
          go_wp2_with (simp only [hb2])
          go_ret
          exact ⟨congrArg (fun i => Ending.returned (.int .i64 i)) ((fit_wrap g1 _).trans HG.out.symm), by repeat (first | exact Fr0.refl _ | refine Fr0.alloc ?_ _ | refine Fr0.drew ?_)⟩
     · have hq : ((c : Int) % 2 == 1) = false := beq_eq_false_iff_ne.2 (by omega)
       have HEQ : Hid (difD c x y = difB x y (c / 2)) := by show _ = _; unfold difD; rw [if_neg (fun e => hc2 e.1)]
       have HLT := Lib.hid hl1
       have CT := Lib.hid (Tryz.bits_TrailingZeros64 (difB x y (c / 2)) (by have := HLT.out; omega) w (fun _ => hT))
       by_cases hz : difB x y (c / 2) = 0
       · have q9 : (((difB x y (c / 2) : Nat) : Int) == 0) = true := by rw [hz]; rfl
         have HE := Lib.hid (HB.out.1 (HEQ.out.trans hz))
         clear hz
         go_enter Tryz.func150, Tryz.ntmps150
         go_wp2_with (simp only [hD, hN, hb, hq])
         go_ret
         exact ⟨congrArg (fun i => Ending.returned (.int .i64 i)) HE.out.symm, by repeat (first | exact Fr0.refl _ | refine Fr0.alloc ?_ _ | refine Fr0.drew ?_)⟩
       · have q9 : (((difB x y (c / 2) : Nat) : Int) == 0) = false := beq_eq_false_iff_ne.2 (by omega)
         have HE := Lib.hid (HB.out.2 (fun e => hz (HEQ.out.symm.trans e)))
         rw [HEQ.out] at HE
         clear hz
         obtain ⟨g1, g2⟩ := HE.out
         have HG := Lib.hid g2
         have hb2 := bit1 (x := x) (k := Lib.ctz 64 (difB x y (c / 2))) (by omega)
         clear g2 HE
         generalize Lib.ctz 64 (difB x y (c / 2)) = t at *
         go_enter Tryz.func150, Tryz.ntmps150
         go_wp2_with (first | simp only [hD, hN, hb, hq] | fail)
         refine CT.out.mono ?_
         rintro e w' ⟨rfl, rfl⟩
         go_wp2_with (simp only [hb2])
         go_ret
         exact ⟨congrArg (fun i => Ending.returned (.int .i64 i)) ((fit_wrap g1 _).trans HG.out.symm), by repeat (first | exact Fr0.refl _ | refine Fr0.alloc ?_ _ | refine Fr0.drew ?_)⟩
end Go.Proofs.YtgldjpldldknoaaGreatDoor
/- The walks of keys.after, number, Number. -/
set_option linter.unusedSimpArgs false
set_option linter.unusedVariables false
namespace Go.Proofs.YtgldjpldldknoaaGreatDoor
open Go.RowKit
theorem fitI_rng {c : Nat} (hc : c ≤ 122) (x y : Int) : -1 ≤ fitI c x y ∧ fitI c x y ≤ 122 := by
 unfold fitI
 cases h : fitN x y (123 - c) c with
 | none => exact ⟨by decide, by decide⟩
 | some n =>
  have := fitN_some _ _ _ h
  dsimp only
  omega
set_option maxRecDepth 100000 in
set_option maxHeartbeats 800000 in
theorem keys_after (low : Int) (x y : Nat) (h0 : 0 ≤ low) (h1 : low ≤ 1099511627776) (hx : x < 2305843009213693951) (hy : y < 2305843009213693951) (w : World) (hT : TabAt 0 Lib.deBruijn64tab w) :
    Calls Tryz.prog 144 #[.int .i64 low, .int .u64 x, .int .u64 y] w fun e w' => e = .returned (.int .i64 (aftI low (x : Int) y)) ∧ Fr0 w w' := by
 have HE := Lib.hid (aftI_fit low (x : Int) y)
 obtain ⟨q, hq⟩ : ∃ q : Nat, low / 2 = q := ⟨(low / 2).toNat, by omega⟩
 rw [hq, show ((q : Int)).toNat = q from rfl] at HE
 have e1 : ((q : Int) + 1 - 1) % 123 = ((q % 123 : Nat) : Int) := by omega
 have e1' : (q : Int) % 123 = ((q % 123 : Nat) : Int) := by omega
 have hc : q % 123 ≤ 122 := by omega
 have C1 := Lib.hid (fun W (hW : Fr0 w W) => keys_fitting (q % 123) x y hc hx hy W (fun j hj => by rw [hW.cell _ _ (World.block_lt_of_cell? w _ (hT j hj))]; exact hT j hj))
 have C2 := Lib.hid (fun W (hW : Fr0 w W) => keys_fitting 0 x y (by omega) hx hy W (fun j hj => by rw [hW.cell _ _ (World.block_lt_of_cell? w _ (hT j hj))]; exact hT j hj))
 have r1 := fitI_rng hc (x : Int) y
 have r2 := fitI_rng (Nat.zero_le 122) (x : Int) y
 have hqb : q ≤ 549755813888 := by omega
 generalize hcc : q % 123 = c at *
 generalize fitI c (x : Int) y = f1 at *
 generalize fitI 0 (x : Int) y = f2 at *
 clear hcc hT
 by_cases k1 : 0 ≤ f1
 · rw [if_pos k1] at HE
   go_enter Tryz.func144, Tryz.ntmps144
   iterate 40 go_step
   simp only [hq]
   go_wp2_with (simp only [e1, e1'])
   refine (C1.out _ (Fr0.refl w)).mono ?_
   rintro e w1 ⟨rfl, hf1⟩
   clear hq h0 h1 hx hy e1 e1'
   go_wp2_with fail
   go_ret
   refine ⟨congrArg (fun i => Ending.returned (.int .i64 i)) (Eq.trans ?_ HE.out.symm), hf1⟩
   omega
 · rw [if_neg k1] at HE
   by_cases k2 : 0 ≤ f2
   · rw [if_pos k2] at HE
     go_enter Tryz.func144, Tryz.ntmps144
     iterate 40 go_step
     simp only [hq]
     go_wp2_with (simp only [e1, e1'])
     refine (C1.out _ (Fr0.refl w)).mono ?_
     rintro e w1 ⟨rfl, hf1⟩
     clear hq h0 h1 hx hy e1 e1'
     have C2' := Lib.hid (C2.out _ hf1)
     go_wp2_with fail
     refine C2'.out.mono ?_
     rintro e w2 ⟨rfl, hf2⟩
     go_wp2_with fail
     go_ret
     refine ⟨congrArg (fun i => Ending.returned (.int .i64 i)) (Eq.trans ?_ HE.out.symm), hf1.trans hf2⟩
     omega
   · rw [if_neg k2] at HE
     go_enter Tryz.func144, Tryz.ntmps144
     iterate 40 go_step
     simp only [hq]
     go_wp2_with (simp only [e1, e1'])
     refine (C1.out _ (Fr0.refl w)).mono ?_
     rintro e w1 ⟨rfl, hf1⟩
     clear hq h0 h1 hx hy e1 e1'
     have C2' := Lib.hid (C2.out _ hf1)
     go_wp2_with fail
     refine C2'.out.mono ?_
     rintro e w2 ⟨rfl, hf2⟩
     go_wp2_with fail
     go_ret
     exact ⟨congrArg (fun i => Ending.returned (.int .i64 i)) HE.out.symm, hf1.trans hf2⟩
set_option maxRecDepth 100000 in
set_option maxHeartbeats 800000 in
theorem keys_number (l : Int) (h2 : 2 ≤ l) (he : l % 2 = 0) (h1 : l ≤ 1099511627776) (w : World) :
    Calls Tryz.prog 133 #[.int .i64 l] w fun e w' => e = .returned (.tuple #[.int .i64 ((l / 2 - 1).toNat % 123 : Nat), .bool true]) ∧ Fr0 w w' := by
 have e1 : (l / 2 - 1) % 123 = (((l / 2 - 1).toNat % 123 : Nat) : Int) := by omega
 generalize (l / 2 - 1).toNat % 123 = c at *
 go_enter Tryz.func133, Tryz.ntmps133
 go_wp2_with (first | simp only [e1] | fail)
 go_ret2
 exact ⟨rfl, by repeat (first | exact Fr0.refl _ | refine Fr0.alloc ?_ _ | refine Fr0.drew ?_)⟩
def numV (c : Nat) : Value := if c = 122 then .tuple #[.int .i64 0, .int .u64 0, .bool true] else .tuple #[.int .i64 ((c : Int) / 2), .int .u64 ((c : Int) % 2), .bool false]
set_option maxRecDepth 100000 in
set_option maxHeartbeats 800000 in
theorem keys_Number (l : Int) (h2 : 2 ≤ l) (he : l % 2 = 0) (h1 : l ≤ 1099511627776) (w : World) :
    Calls Tryz.prog 115 #[.int .i64 l] w fun e w' => e = .returned (numV ((l / 2 - 1).toNat % 123)) ∧ Fr0 w w' := by
 have C1 := Lib.hid (fun W => keys_number l h2 he h1 W)
 have hc : (l / 2 - 1).toNat % 123 ≤ 122 := by omega
 generalize (l / 2 - 1).toNat % 123 = c at *
 clear h2 he h1
 by_cases k : c = 122
 · have HE : Hid (numV c = .tuple #[.int .i64 0, .int .u64 0, .bool true]) := by show _ = _; unfold numV; rw [if_pos k]
   subst k
   go_enter Tryz.func115, Tryz.ntmps115
   go_wp2_with fail
   refine (C1.out _).mono ?_
   rintro e w1 ⟨rfl, hf1⟩
   go_wp2_with fail
   go_ret3
   exact ⟨congrArg Ending.returned HE.out.symm, hf1⟩
 · have HE : Hid (numV c = .tuple #[.int .i64 ((c : Int) / 2), .int .u64 ((c : Int) % 2), .bool false]) := by show _ = _; unfold numV; rw [if_neg k]
   have q1 : ((c : Int) == 122) = false := beq_eq_false_iff_ne.2 (by omega)
   go_enter Tryz.func115, Tryz.ntmps115
   go_wp2_with fail
   refine (C1.out _).mono ?_
   rintro e w1 ⟨rfl, hf1⟩
   go_wp2_with fail
   go_ret3
   exact ⟨congrArg Ending.returned HE.out.symm, hf1⟩
end Go.Proofs.YtgldjpldldknoaaGreatDoor

/- The walk of evergreenlaw37.Store. -/
import Derived.Test.YtclpndigmidjkaaGreatQPaB
import Derived.Test.YtclpndigmidjkaaGreatQPln
import Derived.Lib.SlBytesConst
set_option linter.unusedSimpArgs false
set_option linter.unusedVariables false
namespace Go.Proofs.YtclpndigmidjkaaGreat
open Go.RowKit

/-- What Store leaves. -/
def StPost (w : World) (e : Ending) (w' : World) : Prop :=
  ∃ p mb L, e = .returned (.tuple #[.pointer (some ⟨p, 0, none⟩), .bool true]) ∧ Room w.heap.size w' p mb 1048576 L 1000000 ∧ L.length ≤ 1000 ∧ Fr0 w w'

theorem Kp.all0 {mb : Nat} {w w1 w' : World} (h0 : Fr0 w w1) (h : Kp w.heap.size mb w1 w') : Fr0 w w' :=
  ⟨h.os.trans (Fr.os h0), h.tape.trans (Fr.tape h0), h.output.trans (Fr.output h0), Nat.le_trans (Fr.size h0) h.size, fun k hk hn => (h.low k hk (Nat.lt_of_lt_of_le hk (Fr.size h0))).trans (Fr.block h0 k hk hn)⟩

def abc : List Int := [97, 98, 99, 100, 101, 102]
def psA : List PS := [⟨1, 2, ⟨#[120]⟩⟩, ⟨5, 0, ⟨#[121, 122]⟩⟩]

theorem bytes_abc (w : World) (f : Nat × Nat) : BytesAt (w.alloc (.cells #[.int .u8 97, .int .u8 98, .int .u8 99, .int .u8 100, .int .u8 101, .int .u8 102] 5 f)) w.heap.size 0 abc := by
  refine ⟨⟨_, _, alloc_at _ _ _ rfl, fun i hi => ?_⟩, fun x hx => ?_⟩
  · match i, hi with
    | 0, _ => rfl
    | 1, _ => rfl
    | 2, _ => rfl
    | 3, _ => rfl
    | 4, _ => rfl
    | 5, _ => rfl
  · simp only [abc, List.mem_cons, List.not_mem_nil, or_false] at hx
    omega

theorem rg_psA (B : Nat) (w : World) : RG PS.vals 3 B (w.alloc (.cells #[.int .i64 1, .int .i64 2, .string ⟨#[120]⟩, .int .i64 5, .int .i64 0, .string ⟨#[121, 122]⟩] 113 (0, 0))) (some ⟨w.heap.size, 0, none⟩) psA := by
  have hb := alloc_at w (.cells #[.int .i64 1, .int .i64 2, .string ⟨#[120]⟩, .int .i64 5, .int .i64 0, .string ⟨#[121, 122]⟩] 113 (0, 0)) _ rfl
  intro i hi
  refine ⟨_, 0, rfl, lt_of_block hb, .inr ⟨_, _, _, hb, by decide, by decide⟩, fun j u hj => ?_⟩
  rw [cell_of_block hb]
  match i, hi with
  | 0, _ =>
    match j with
    | 0 => exact hj
    | 1 => exact hj
    | 2 => exact hj
    | j + 3 => simp [psA, PS.vals] at hj
  | 1, _ =>
    match j with
    | 0 => exact hj
    | 1 => exact hj
    | 2 => exact hj
    | j + 3 => simp [psA, PS.vals] at hj

theorem lst4 : lst 4 = 8 := rfl

set_option maxRecDepth 100000 in
set_option maxHeartbeats 2000000 in
theorem law37_Store (w : World) : Calls Tryz.prog 9 #[] w (StPost w) := by
  have kc : ∀ (w : World) (C : Array Value) (n c : Nat), (convert 72 72 (.slice (some ⟨w.heap.size, 0, none⟩) n c)).run Tryz.prog (w.alloc (.cells C 5 (0, 0))) = .ok (.slice (some ⟨w.heap.size, 0, none⟩) n c) (w.alloc (.cells C 5 (C.size, C.size + 1))) :=
    fun (w : World) (C : Array Value) (n c : Nat) => Lib.run_convert_bytes_const (P := Tryz.prog) w 72 5 C n c Tryz.underlying72 Tryz.underlying5
  go_enter Tryz.func9, Tryz.ntmps9
  go_wp2_with fail
  refine (st_New _).mono ?_
  rintro e w1 ⟨rfl, hf1, hS1, hz1⟩
  have hR1 : Room w.heap.size w1 (w.heap.size + 1) w.heap.size 1048576 [] 1048576 := ⟨⟨_, hS1, by omega, by omega, fun k hk => by simp [Value.ownBlock] at hk⟩, by omega, SOk.nil, DOk.nil, by simp, by simp⟩
  have HR1 := Lib.hid hR1
  have HF1 := Lib.hid hf1
  clear hR1 hf1 hS1 hz1
  obtain ⟨p, hp⟩ : ∃ p, w.heap.size + 1 = p := ⟨_, rfl⟩
  obtain ⟨mb, hmb⟩ : ∃ mb, w.heap.size = mb := ⟨_, rfl⟩
  rw [hp] at HR1 ⊢
  conv at HR1 => rw [hmb]
  have HMB := Lib.hid hmb
  clear hp hmb
  go_wp2_with fail
  have CT := Lib.hid (sto_TextN (bs := abc) (n := 6) rfl ((HR1.out.less (m := 12) (by omega)).kept0 ((Fr0.refl w1).alloc (.cells #[.int .u8 97, .int .u8 98, .int .u8 99, .int .u8 100, .int .u8 101, .int .u8 102] 5 (6, 7)))) _ 0 6 (bytes_abc w1 (6, 7)) (by omega) (by omega) (by omega))
  refine CT.out.mono ?_
  rintro e w2 ⟨L2, z, dz, kz, rfl, hS2, hK2, g2, bz, hz⟩
  have hR2 := HR1.out.next (k := 1048500) hS2 ((Kp.of0 ((Fr0.refl w1).alloc _)).trans hK2) g2 (by omega)
  have hF2 : Fr0 w w2 := Kp.all0 (HF1.out.alloc _) (by rw [HMB.out]; exact hK2)
  have HL2 : Hid (L2.length ≤ 12) := by have := g2.len; simp at this; show _ ≤ _; omega
  have HR2 := Lib.hid hR2
  have HF2 := Lib.hid hF2
  have HZ := Lib.hid bz
  clear hS2 hK2 g2 bz hz CT hR2 hF2 HR1 HF1 kc
  go_wp2_with fail
  have CO := Lib.hid (law37_To (ps := psA) (cap := 2) ((HR2.out.less (m := 6) (by omega)).kept0 ((Fr0.refl w2).alloc (.cells #[.int .i64 1, .int .i64 2, .string ⟨#[120]⟩, .int .i64 5, .int .i64 0, .string ⟨#[121, 122]⟩] 113 (0, 0)))) (rg_psA mb w2) (by simp [psA]) (fun c hc => by simp only [psA, List.mem_cons, List.not_mem_nil, or_false] at hc; rcases hc with rfl | rfl <;> decide))
  refine CO.out.mono ?_
  rintro e w3 ⟨L3, v, cs, k3, rfl, hS3, hK3, g3, hk3, ho3, hp3⟩
  have hR3 := HR2.out.next (k := 1048400) hS3 ((Kp.of0 ((Fr0.refl w2).alloc _)).trans hK3) g3 (by have : insP (psA.map PS.pc) = 3 := rfl; omega)
  have hF3 : Fr0 w w3 := Kp.all0 (HF2.out.alloc _) (by rw [HMB.out]; exact hK3)
  have HL3 : Hid (L3.length ≤ 18) := by have := g3.len; have := HL2.out; have : insP (psA.map PS.pc) = 3 := rfl; show _ ≤ _; omega
  have HR3 := Lib.hid hR3
  have HF3 := Lib.hid hF3
  have hZ3 := g3.balz HR2.out.dok HZ.out
  obtain ⟨dz0, dz1⟩ := hZ3.deep hR3.dok hR3.sok (D := 3) (by rw [lst4]; decide)
  obtain ⟨va, vcap, rfl, hrg⟩ := rg_of_own (vals := Chg.vals) (size := 3) (B := mb) (fun c _ => rfl) ho3 (by decide) (by decide)
  have hpA : patR abc (psA.map PS.pc) = [97, 120, 100, 101, 121, 122, 102] := rfl
  have hdz : dz.toNat ≤ 3 := by omega
  have hcost : 5 * (11 * dz.toNat + 1) ≤ 170 := by omega
  have CA := Lib.hid (pat_Apply_ok (cap := vcap) (ps := psA.map PS.pc) 3 (hR3.less (by show 5 * (11 * dz.toNat + 1) + 5 * 10 ≤ _; omega)) hZ3 hrg hp3 (by decide) (by decide) (by rw [hpA]; decide) (by rw [hpA, lst4]; decide))
  rw [hpA] at CA
  clear hpA hZ3 hrg ho3 hp3 hS3 hK3 g3 hk3 hR3 hF3 CO HR2 HF2 HZ HL2
  go_wp2_with fail
  refine CA.out.mono ?_
  rintro e w4 ⟨L4, y, dy, k4, rfl, hS4, hK4, g4, by4, hk4⟩
  have hk4' : k4 ≤ 220 := by
    have h5 : k4 ≤ 5 * (11 * dz.toNat + 1) + 5 * 10 := hk4
    omega
  have hR4 := HR3.out.next (k := 1000000) hS4 hK4 g4 (by omega)
  have hF4 : Fr0 w w4 := Kp.all0 HF3.out (by rw [HMB.out]; exact hK4)
  have hL4 : L4.length ≤ 238 := by have := g4.len; have := HL3.out; omega
  have CP := Lib.hid (law37_Plain hS4 hR4.sok hR4.dok (by omega) by4 (by decide))
  have hst : strOfNums [97, 120, 100, 101, 121, 122, 102] = ⟨#[97, 120, 100, 101, 121, 122, 102]⟩ := rfl
  rw [hst] at CP
  have HP : Hid (∀ W, Fr0 w4 W → StPost w (.returned (.tuple #[.pointer (some ⟨p, 0, none⟩), .bool true])) W) := fun W hW => ⟨p, mb, L4, rfl, by rw [HMB.out]; exact hR4.kept0 hW, by omega, hF4.trans hW⟩
  clear hst hS4 hK4 g4 by4 hk4 hR4 hF4 hL4 CA hcost hdz dz0 dz1 HR3 HF3 HL3
  go_wp2_with fail
  refine CP.out.mono ?_
  rintro e w5 ⟨rfl, hf5⟩
  go_wp2_with fail
  go_ret2
  exact HP.out _ hf5

end Go.Proofs.YtclpndigmidjkaaGreat

/- The walk of patch.Invert. -/
import Derived.Test.YtclpndigmidjkaaQInv0
import Derived.Test.YtclpndigmidjkaaQPaC
set_option linter.unusedSimpArgs false
set_option linter.unusedVariables false
namespace Go.Proofs.Ytclpndigmidjkaa
open Go.RowKit

/-- How many letters more the result has before the k-th change. -/
def moK : Int → List PC → Nat → Int
  | m, _, 0 => m
  | m, [], _ + 1 => m
  | m, c :: r, k + 1 => moK (m + ((c.text.length : Int) - c.n)) r k

theorem moK_zero (m : Int) (ps : List PC) : moK m ps 0 = m := by cases ps <;> rfl
theorem moK_succ : ∀ (ps : List PC) (m : Int) (k : Nat) (h : k < ps.length), moK m ps (k + 1) = moK m ps k + ((ps[k].text.length : Int) - ps[k].n)
  | c :: r, m, 0, _ => by cases r <;> rfl
  | c :: r, m, k + 1, h => moK_succ r _ k (by simpa using h)
theorem invG_get (t : List Int) : ∀ (ps : List PC) (m : Int) (k : Nat) (h : k < ps.length) (h' : k < (invG t m ps).length), (invG t m ps)[k] = ⟨ps[k].at_ + moK m ps k, (ps[k].text.length : Int), cutL t ps[k].at_ ps[k].n⟩
  | c :: r, m, 0, _, _ => rfl
  | c :: r, m, k + 1, h, h' => invG_get t r _ k (by simpa using h) (by simpa [invG] using h')
theorem invG_take (t : List Int) (ps : List PC) (k : Nat) (h : k < ps.length) : (invG t 0 ps).take (k + 1) = (invG t 0 ps).take k ++ [⟨ps[k].at_ + moK 0 ps k, (ps[k].text.length : Int), cutL t ps[k].at_ ps[k].n⟩] := by
  have h' : k < (invG t 0 ps).length := by rw [invG_len]; exact h
  rw [List.take_succ_eq_append_getElem h', invG_get t ps 0 k h h']

/-- What Invert leaves. -/
def IvPost (B : Nat) (w : World) (p mb : Nat) (most : Int) (L : List Ent) (qs : List PC) (N : Nat) (e : Ending) (w' : World) : Prop :=
  ∃ L' v cs k, e = .returned (.tuple #[v, .nilIface]) ∧ Sto B w' p mb most L' ∧ Kp B mb w w' ∧ Grows L L' k ∧ k ≤ N ∧ w'.ownsRow w.heap.size 63 3 v cs.length (cs.flatMap Chg.vals) ∧ PChg L' cs qs

structure IvR (B : Nat) (w wr : World) (p mb : Nat) (most : Int) (L : List Ent) (qs : List PC) (N : Nat) (v : Value) (L' : List Ent) (cs : List Chg) : Prop where
  st : Sto B wr p mb most L'
  kp : Kp B mb w wr
  grows : Grows L L' N
  own : wr.ownsRow w.heap.size 63 3 v cs.length (cs.flatMap Chg.vals)
  all : PChg L' cs qs

set_option maxRecDepth 100000 in
set_option maxHeartbeats 1000000 in
theorem pat_Invert_err {w : World} {p : Nat} (id : Int) (pv : Value) (n m : Int) (hK : Calls Try.prog 29 #[.pointer (some ⟨p, 0, none⟩), .int .i64 id, pv] w fun e w' => e = .returned (.tuple #[.int .i64 m, .iface 42 (.int .i64 n)]) ∧ Fr0 w w') :
    Calls Try.prog 19 #[.pointer (some ⟨p, 0, none⟩), .int .i64 id, pv] w fun e w' => e = .returned (.tuple #[.slice none 0 0, .iface 42 (.int .i64 n)]) ∧ Fr0 w w' := by
  have CK := Lib.hid hK
  clear hK
  go_enter Try.func19, Try.ntmps19
  go_wp2_with fail
  refine CK.out.mono ?_
  rintro e w1 ⟨rfl, hf1⟩
  go_wp2_with fail
  go_ret2
  exact ⟨rfl, hf1⟩

set_option maxRecDepth 100000 in
set_option maxHeartbeats 2000000 in
theorem pat_Invert_ok {B : Nat} {w : World} {p mb : Nat} {most : Int} {L : List Ent} {id : Int} {t : List Int} {d : Int} {ps : List PC} {cs : List Chg} {a : Option Addr} {cap : Nat} (hR : Room B w p mb most L (ps.length * (11 * d.toNat + 1)))
    (hb : BalZ L id t d) (hC : RG Chg.vals 3 B w a cs) (hP : PChg L cs ps) (hl : ps.length ≤ 100000) (hv : validP t.length (-1) ps = true) (hT : ((patR t ps).length : Int) ≤ 1152921504606846976) :
    Calls Try.prog 19 #[.pointer (some ⟨p, 0, none⟩), .int .i64 id, .slice a cs.length cap] w (IvPost B w p mb most L (invG t 0 ps) (ps.length * (11 * d.toNat + 1))) := by
  have hlen := hb.len hR.dok hR.sok
  have hle := (hR.sok.at id hb.known).1.len1
  have hcl := hP.len
  have hpl := patR_len hv
  have hfm := hP.valid hR.dok hR.sok (length := t.length) (-1)
  rw [hv] at hfm
  have CA := Lib.hid (pat_applied (T := t.length) hR.st hb.known hb.even (by omega) (.slice a cs.length cap) (t.length - sumN cs + sumT (lnL L) cs) .nilIface (fun W hW => by
    obtain ⟨sv, hS, _⟩ := hR.st
    exact pat_Length_ok (hS.kept0 hW) hR.sok t.length (by omega) (by omega) a cap cs ((chgs_of_rg hC).kept0 hW) (by omega) hP.known hfm (by rw [hP.del, hP.ins hR.dok hR.sok]; omega)))
  have HIV := Lib.hid (inv_ok hv).2
  have HR := Lib.hid hR
  have HB := Lib.hid hb
  have HC := Lib.hid hC
  have HP := Lib.hid hP
  have HV := Lib.hid hv
  have HCL := Lib.hid hcl
  have hcl2 : cs.length ≤ 100000 := by omega
  have htl : (t.length : Int) ≤ 1152921504606846976 := by omega
  clear hfm hle hpl
  generalize (t.length : Int) - sumN cs + sumT (lnL L) cs = N at *
  have HT := Lib.hid hT
  have H0 : Hid (∀ W, Fr0 w W → IvR B w W p mb most L ((invG t 0 ps).take 0) (0 * (11 * d.toNat + 1)) (.slice none 0 0) L []) := fun W hW => ⟨hR.st.kept0 hW, Kp.of0 hW, (Grows.refl hR.sok hR.dok).le (by omega), World.ownsRow_nil _ _ _ _, trivial⟩
  clear hR hb hC hP hv hcl hT hlen
  go_enter Try.func19, Try.ntmps19
  go_wp2_with fail
  refine CA.out.mono ?_
  rintro e w1 ⟨rfl, f1⟩
  have HI0 := Lib.hid (H0.out _ f1)
  clear f1 CA H0
  go_wp2_with fail
  go_loopw [10, 11, 29] (fun v m i wr => ∃ (k : Nat) (L' : List Ent) (ds : List Chg), k ≤ cs.length ∧ i = .int .i64 k ∧ m = .int .i64 (moK 0 ps k) ∧ Hid (ds.length = k) ∧ IvR B w wr p mb most L ((invG t 0 ps).take k) (k * (11 * d.toNat + 1)) v L' ds) (fun _ _ i _ => cs.length - (intOf i).toNat)
  case atStart => exact ⟨0, L, [], Nat.zero_le _, rfl, by rw [moK_zero], rfl, HI0.out⟩
  case round =>
    obtain ⟨k, L', ds, hk, rfl, rfl, HDL, hr⟩ := hrel
    clear HI0
    by_cases hlt : k < cs.length
    · have hlt2 : k < ps.length := by have := HCL.out; omega
      have hlt3 : k < (invG t 0 ps).length := by rw [invG_len]; exact hlt2
      obtain ⟨b, off, rfl, lb, _, hc⟩ := (HC.out.keptK hr.kp) k hlt
      have c0 := hc 0 _ rfl
      have c1 := hc 1 _ rfl
      have c2 := hc 2 _ rfl
      rw [Nat.add_zero] at c0
      obtain ⟨g1, g2, dx, hbx⟩ := HP.out.get k hlt hlt2
      obtain ⟨v1, v2, v3⟩ := validP_get ps _ HV.out k hlt2
      obtain ⟨u1, u2, u3⟩ := validP_get _ _ HIV.out k hlt3
      rw [invG_get t ps 0 k hlt2 hlt3] at u1 u2 u3
      dsimp only at u1 u2 u3
      have HTK := Lib.hid (invG_take t ps k hlt2)
      have HMO := Lib.hid (moK_succ ps 0 k hlt2)
      have hbx' := hr.grows.balz HR.out.dok hbx
      have hb' := hr.grows.balz HR.out.dok HB.out
      have q4 : (k + 1) * (11 * d.toNat + 1) ≤ ps.length * (11 * d.toNat + 1) := Nat.mul_le_mul_right _ (by omega)
      have q5 : (k + 1) * (11 * d.toNat + 1) = k * (11 * d.toNat + 1) + (11 * d.toNat + 1) := by rw [Nat.add_mul, Nat.one_mul]
      have hroom := HR.out.next (k := 11 * d.toNat + 1) hr.st hr.kp hr.grows (by omega)
      have CSZ := Lib.hid (fun W (hW : Fr0 wr W) => sto_size (hroom.st.kept0 hW) hroom.dok hroom.sok hbx')
      have CX := Lib.hid (fun W (hW : Fr0 wr W) => pat_section (f := ps[k].at_) (n := ps[k].n) (hroom.kept0 hW) hb' v1 v2 v3)
      have HRR := Lib.hid hr
      have Q5 := Lib.hid q5
      have hTl := HT.out
      rw [← g1, ← g2] at CX HTK
      rw [← g1] at u1 u3 v1 v3
      rw [← g2] at v2 v3 HMO
      clear hc g1 g2 hbx hbx' hb' q4 q5 hr hroom HC HR HB HP HV HIV HT
      generalize cs[k] = c at *
      generalize ps[k].text = tx at *
      generalize moK 0 ps k = mo at *
      go_wp2_with fail
      refine (CSZ.out _ ((Fr0.refl wr).alloc _)).mono ?_
      rintro e w3 ⟨rfl, f3⟩
      have hr3 := f3.kept (b := wr.heap.size) (alloc_at wr _ _ rfl)
      have F3 := ((Fr0.refl wr).alloc (.cells #[.int .i64 c.at_, .int .i64 c.n, .int .i64 c.text] 63 (0, 0))).trans f3
      obtain ⟨e0, e1, e2, _, le⟩ := cells3 hr3
      have CX3 := Lib.hid (CX.out _ F3)
      clear CX CSZ f3
      go_wp2_with fail
      refine CX3.out.mono ?_
      rintro e w4 ⟨L2, z, dz, kz, rfl, hS2, hK2, g2, bz, hz⟩
      have hr4 := hK2.cells _ _ _ _ hr3 (by decide) (by decide)
      clear e0 e1 e2 le hr3
      obtain ⟨e0, e1, e2, _, le⟩ := cells3 hr4
      have hK3 := (HRR.out.kp.trans (Kp.of0 F3)).trans hK2
      have ho3 := hK2.owns (F3.owns HRR.out.own) (by decide) (by decide)
      have hall := (HRR.out.all.more g2 HRR.out.grows.dok).snoc (c := ⟨c.at_ + mo, (tx.length : Int), z⟩) (p := ⟨c.at_ + mo, (tx.length : Int), cutL t c.at_ c.n⟩) rfl rfl bz
      have hN : ∀ v' w', w'.ownsRow w.heap.size 63 3 v' (ds ++ [(⟨c.at_ + mo, (tx.length : Int), z⟩ : Chg)]).length ((ds ++ [(⟨c.at_ + mo, (tx.length : Int), z⟩ : Chg)]).flatMap Chg.vals) → (w4.alloc (.cells #[.int .i64 (c.at_ + mo), .int .i64 (tx.length : Int), .int .i64 z] 63 (0, 0))).grownBy w' u10.ownBlock → IvR B w w' p mb most L ((invG t 0 ps).take (k + 1)) ((k + 1) * (11 * d.toNat + 1)) v' L2 (ds ++ [⟨c.at_ + mo, (tx.length : Int), z⟩]) ∧ (∀ b o, b < w4.heap.size → u10.ownBlock ≠ some b → w'.cell? ⟨b, o, none⟩ = w4.cell? ⟨b, o, none⟩) :=
        fun v' w' h1 h2 => ⟨⟨hS2.push ho3 (by decide) (by decide) h2, (hK3.alloc _).grown h2 (fun j hj => (ho3.lt j hj).1), HRR.out.grows.trans g2 (by rw [Q5.out]; omega), h1, by rw [HTK.out]; exact hall⟩, fun b o hb hne => by rw [World.cell?_of_block ((h2.block b (by simp; omega) (fun e => hne e.symm)).trans (alloc_lt _ _ _ hb))]⟩
      have HN := Lib.hid hN
      have hnb : u10.ownBlock ≠ some wr.heap.size := fun h => by have := (HRR.out.own.lt _ h).2; omega
      have hbs : w.heap.size ≤ w4.heap.size := hK3.size
      have hdl : ds.length ≤ 1000000 := by rw [HDL.out]; omega
      have HR4 := Lib.hid hr4
      clear hN hS2 hK2 g2 bz hz hall CX3 hr4 hK3 F3
      go_wp2_with (at_builtin; refine wpList_pushG rt_chg rfl _ _ rfl w.heap.size _ ds rfl ho3 hbs 63 ⟨c.at_ + mo, (tx.length : Int), z⟩ #[.int .i64 (c.at_ + mo), .int .i64 (tx.length : Int), .int .i64 z] rfl rfl (by simp [Chg.vals, Value.oneCell']) 1 _ rfl rfl (by omega) hdl ?_; intro v' w5 hO5 hg5 hat5; obtain ⟨hX, hcell⟩ := HN.out _ _ hO5 hg5; have j1 : w5.cell? ⟨wr.heap.size, 1, none⟩ = some (.int .i64 c.n) := (hcell _ _ le hnb).trans e1; have l5 : wr.heap.size < w5.heap.size := (by have := hg5.size; simp at this; omega); clear hcell)
      go_roundw
      case rel => exact ⟨k + 1, L2, ds ++ [⟨c.at_ + mo, (tx.length : Int), z⟩], by omega, by go_num, by rw [HMO.out], by show _ = _; rw [List.length_append, HDL.out]; rfl, hX⟩
      case measure => simp [intOf]; omega
    · have hkz : k = cs.length := by omega
      have HX : Hid (IvPost B w p mb most L (invG t 0 ps) (ps.length * (11 * d.toNat + 1)) (.returned (.tuple #[u10, .nilIface])) wr) := by
        have h1 := hr
        rw [List.take_of_length_le (by rw [invG_len]; have := HCL.out; omega)] at h1
        refine ⟨L', u10, ds, _, rfl, h1.st, h1.kp, h1.grows, ?_, h1.own, h1.all⟩
        exact Nat.mul_le_mul_right _ (by have := HCL.out; omega)
      clear hr hkz hk HC HR HP HV HB HIV HT
      generalize moK 0 ps k = mo at *
      go_wp2_with fail
      go_ret2
      exact HX.out

end Go.Proofs.Ytclpndigmidjkaa

/- The walk of evergreenlaw12.Build. -/
import Derived.Test.YtodmpcnpedpheaaGreatDoorQErr
import Derived.Test.YtodmpcnpedpheaaGreatDoorQSt9
set_option linter.unusedSimpArgs false
set_option linter.unusedVariables false
namespace Go.Proofs.YtodmpcnpedpheaaGreatDoor
open Go.RowKit

/-- The state of the loop. -/
structure LbR (B p mb : Nat) (most : Int) (w1 wr : World) (ms : List Mk) (k : Nat) (v : Value) : Prop where
  kp : Kp B mb w1 wr
  st : Sto B wr p mb most (allL (ms.take k)).1
  own : wr.ownsRow w1.heap.size 38 1 v (allL (ms.take k)).2.length ((allL (ms.take k)).2.map fun x => Value.int .i64 x)

/-- The results of the first Makes are the first results. -/
theorem allL_pre (ms : List Mk) : ∀ d k, k + d ≤ ms.length → ∃ M, (allL (ms.take (k + d))).2 = (allL (ms.take k)).2 ++ M := by
  intro d
  induction d with
  | zero => exact fun k _ => ⟨[], by simp⟩
  | succ d ih =>
    intro k hk
    obtain ⟨M, hM⟩ := ih k (by omega)
    rw [show k + (d + 1) = k + d + 1 by omega, allL_take ms (k + d) (by omega), hM]
    exact ⟨M ++ [(oneL (allL (ms.take (k + d))).1 ms[k + d] ((allL (ms.take k)).2 ++ M)).2], by simp⟩

theorem allL_want (ms : List Mk) (hm : ∀ m ∈ ms, m.Ok) (k : Nat) (hk : k < ms.length) (h : k + 1 < (allL ms).2.length) : (allL ms).2[k + 1] = (oneL (allL (ms.take k)).1 ms[k] (allL (ms.take k)).2).2 := by
  obtain ⟨M, hM⟩ := allL_pre ms (ms.length - (k + 1)) (k + 1) (by omega)
  rw [show k + 1 + (ms.length - (k + 1)) = ms.length by omega, List.take_length, allL_take ms k hk] at hM
  have hl := (allL_ok ms hm k (by omega)).2.2.2
  have h1 : (allL ms).2[k + 1]? = some (oneL (allL (ms.take k)).1 ms[k] (allL (ms.take k)).2).2 := by
    rw [hM]
    simp [List.getElem?_append, hl]
  rw [List.getElem?_eq_getElem h] at h1
  exact Option.some.inj h1

theorem owns_lowI {w : World} {b1 b2 : Nat} {T : TypeId} {size n : Nat} {v : Value} {xs : List Value} (h : w.ownsRow b1 T size v n xs) (hb : b2 ≤ b1) : w.ownsRow b2 T size v n xs := by
  refine ⟨h.1, ?_⟩
  rcases h.2 with h3 | ⟨g, cap, cur, h3, hb2, r⟩
  · exact .inl h3
  · exact .inr ⟨g, cap, cur, h3, Nat.le_trans hb hb2, r⟩

theorem oneL_power {L : List Ent} {m : Mk} {rs : List Int} (h : m.kind % 4 = 3) :
    oneL L m rs = ((if pickR rs m.left = 0 ∨ m.times ≤ 0 ∨ MaxL / (entAt L (pickR rs m.left)).wt.len < m.times then L else if m.times = 1 then L else addL L (powEnt L (pickR rs m.left) m.times)),
      (if pickR rs m.left = 0 ∨ m.times ≤ 0 ∨ MaxL / (entAt L (pickR rs m.left)).wt.len < m.times then 0 else if m.times = 1 then pickR rs m.left else addI L (powEnt L (pickR rs m.left) m.times))) := by
  unfold oneL
  rw [if_neg (by omega), if_pos h]
  by_cases c : pickR rs m.left = 0 ∨ m.times ≤ 0 ∨ MaxL / (entAt L (pickR rs m.left)).wt.len < m.times
  · rw [if_pos c, if_pos c, if_pos c]
  · rw [if_neg c, if_neg c, if_neg c]
    by_cases t : m.times = 1
    · rw [if_pos t, if_pos t, if_pos t]
    · rw [if_neg t, if_neg t, if_neg t]

theorem oneL_pair {L : List Ent} {m : Mk} {rs : List Int} (h0 : m.kind % 4 ≠ 0) (h : m.kind % 4 ≠ 3) :
    oneL L m rs = ((if pickR rs m.left = 0 then L else if pickR rs m.right = 0 then L else if MaxL - (entAt L (pickR rs m.right)).wt.len < (entAt L (pickR rs m.left)).wt.len then L else addL L (pairEnt L (pickR rs m.left) (pickR rs m.right))),
      (if pickR rs m.left = 0 then pickR rs m.right else if pickR rs m.right = 0 then pickR rs m.left else if MaxL - (entAt L (pickR rs m.right)).wt.len < (entAt L (pickR rs m.left)).wt.len then 0 else addI L (pairEnt L (pickR rs m.left) (pickR rs m.right)))) := by
  unfold oneL
  rw [if_neg h0, if_neg h]
  by_cases c : pickR rs m.left = 0
  · rw [if_pos c, if_pos c, if_pos c]
  · rw [if_neg c, if_neg c, if_neg c]
    by_cases d : pickR rs m.right = 0
    · rw [if_pos d, if_pos d, if_pos d]
    · rw [if_neg d, if_neg d, if_neg d]
      by_cases t : MaxL - (entAt L (pickR rs m.right)).wt.len < (entAt L (pickR rs m.left)).wt.len
      · rw [if_pos t, if_pos t, if_pos t]
      · rw [if_neg t, if_neg t, if_neg t]

set_option maxRecDepth 100000 in
set_option maxHeartbeats 4000000 in
theorem law12_Build {B : Nat} {w : World} {p mb : Nat} {most : Int} (hS : Sto B w p mb most []) (hB : B ≤ w.heap.size) (hmo : 1000 ≤ most) {a : Option Addr} {cap : Nat} {ms : List Mk} (hA : RG Mk.vals 5 B w a ms) (hl : ms.length ≤ 100) (hm : ∀ m ∈ ms, m.Ok) :
    Calls Tryz.prog 8 #[.pointer (some ⟨p, 0, none⟩), .slice a ms.length cap] w fun e w' => ∃ v, e = .returned (.tuple #[v, .bool true]) ∧ Sto B w' p mb most (allL ms).1 ∧ Kp B mb w w' ∧ w'.ownsRow w.heap.size 38 1 v (allL ms).2.length ((allL ms).2.map fun x => Value.int .i64 x) := by
  have HM := Lib.hid hm
  have HA := Lib.hid hA
  have HOK := Lib.hid (allL_ok ms hm)
  have CB := Lib.hid (ref12_Build (cap := cap) hA hl hm)
  have hlw : (allL ms).2.length = ms.length + 1 := by have := (allL_ok ms hm ms.length (Nat.le_refl _)).2.2.2; rwa [List.take_length] at this
  have HLW := Lib.hid hlw
  have HST := Lib.hid hS
  clear hA hm hS hlw
  go_enter Tryz.func8, Tryz.ntmps8
  go_wp2_with fail
  refine CB.out.mono ?_
  rintro e w1 ⟨va, vb, v1, rfl, hf1, hst1, ho1⟩
  obtain ⟨⟨ra, rcap, rfl, -⟩, ⟨la, lcap, rfl, -⟩, -, -⟩ := hst1
  obtain ⟨wa, wcap, rfl, hwr⟩ := rg_of_own (vals := idv) (size := 1) (B := B) (w := w1) (fun _ _ => rfl) (by rw [idvL_map]; exact ho1) (by decide) (by decide)
  have HWR := Lib.hid hwr
  have HF1 := Lib.hid hf1
  have HS1 : Hid (w.heap.size ≤ w1.heap.size) := Lib.hid (Fr.size hf1)
  have H0 : Hid (LbR B p mb most w1 ((w1.alloc (.cells #[.slice ra (allL ms).1.length rcap, .slice la (allL ms).1.length lcap] 35 (0, 0))).alloc (.cells #[.int .i64 0] 38 (0, 0))) ms 0 (.slice (some ⟨w1.heap.size + 1, 0, none⟩) 1 1)) :=
    ⟨Kp.of0 (((Fr0.refl w1).alloc _).alloc _), HST.out.kept0 ((hf1.alloc _).alloc _), ⟨rfl, .inr ⟨w1.heap.size + 1, 1, #[.int .i64 0], rfl, by omega, alloc2_1 w1 _ _, Nat.le_refl _, by unfold maxLen; omega, rfl, rfl⟩⟩⟩
  clear CB ho1 hf1 hwr
  go_wp2_with fail
  go_loopw [8, 22] (fun v i wr => ∃ (k : Nat), k ≤ ms.length ∧ i = .int .i64 k ∧ LbR B p mb most w1 wr ms k v) (fun _ i _ => ms.length - (intOf i).toNat)
  case atStart => exact ⟨0, Nat.zero_le _, rfl, by first | exact H0.out | (have := H0.out; simpa using this)⟩
  case round =>
    clear H0
    obtain ⟨k, hk, rfl, hr⟩ := hrel
    obtain ⟨ok1, ok2, ok3, ok4⟩ := HOK.out k hk
    by_cases hlt : k < ms.length
    · obtain ⟨b, off, rfl, lb, _, hc⟩ := (HA.out.keptK ((Kp.of0 HF1.out).trans hr.kp)) k hlt
      obtain ⟨ca, ccap, rfl, hrg⟩ := rg_of_own (vals := idv) (size := 1) (B := 0) (w := wr) (fun _ _ => rfl) (by rw [idvL_map]; exact hr.own) (by decide) (by decide)
      have c0 := hc 0 _ rfl
      have c1 := hc 1 _ rfl
      have c2 := hc 2 _ rfl
      have c3 := hc 3 _ rfl
      have c4 := hc 4 _ rfl
      rw [Nat.add_zero] at c0
      have hmk := HM.out ms[k] (List.getElem_mem _)
      have HTK := Lib.hid (allL_take ms k hlt)
      have hlk : k + 1 < (allL ms).2.length := by rw [HLW.out]; omega
      have HWN := Lib.hid (allL_want ms HM.out k hlt hlk)
      have hwg := HWR.out.keptK hr.kp
      have HKP := Lib.hid hr.kp
      have hown := hr.own
      have hBr : B ≤ wr.heap.size := by have := hr.kp.size; have := HS1.out; omega
      have hst := hr.st
      clear hr
      generalize ms[k] = m at *
      generalize hL0 : (allL (ms.take k)).1 = L at *
      generalize hR0 : (allL (ms.take k)).2 = rs at *
      clear hL0 hR0
      obtain ⟨i, ib, ioff, hi, hi2, rfl, hlb, hci⟩ := pick_at hrg (by omega) m.left
      obtain ⟨j, jb, joff, hj, hj2, hbb, _, hcj⟩ := pick_at hrg (by omega) m.right
      cases hbb
      have kl := pick_known ok2 m.left
      have kr := pick_known ok2 m.right
      have CP1 : Hid (∀ W : World, Calls Tryz.prog 26 #[.int .i64 m.left, .int .i64 rs.length] W fun e w' => e = .returned (.int .i64 (i : Int)) ∧ w' = W) := Lib.hid (fun W => (ref12_Pick m.left rs.length W hmk.left.1 hmk.left.2 (by omega) (by omega)).mono (fun e w' h => ⟨by rw [← hi]; exact h.1, h.2.symm⟩))
      have CP2 : Hid (∀ W : World, Calls Tryz.prog 26 #[.int .i64 m.right, .int .i64 rs.length] W fun e w' => e = .returned (.int .i64 (j : Int)) ∧ w' = W) := Lib.hid (fun W => (ref12_Pick m.right rs.length W hmk.right.1 hmk.right.2 (by omega) (by omega)).mono (fun e w' h => ⟨by rw [← hj]; exact h.1, h.2.symm⟩))
      obtain ⟨kk, hkk⟩ : ∃ kk, m.kind % 4 = kk := ⟨_, rfl⟩
      have HKK := Lib.hid hkk
      have CP3 : Hid (∀ W : World, Calls Tryz.prog 26 #[.int .i64 m.kind, .int .i64 4] W fun e w' => e = .returned (.int .i64 kk) ∧ W = w') := Lib.hid (fun W => by rw [← hkk]; exact ref12_Pick m.kind 4 W hmk.kind.1 hmk.kind.2 (by omega) (by omega))
      clear hkk
      have CL : Hid (∀ W, Fr0 wr W → kk = 0 → Calls Tryz.prog 27 #[.pointer (some ⟨p, 0, none⟩), .int .u8 m.letter] W (MkPost B W p mb most (oneL L m rs).1 (oneL L m rs).2)) := by
        intro W hW h
        rw [← HKK.out] at h
        have e : oneL L m rs = (addL L (letterEnt m.letter), addI L (letterEnt m.letter)) := if_pos h
        rw [e]
        exact sto_Letter' (hst.kept0 hW) (Nat.le_trans hBr (Fr.size hW)) _ hmk.l0 hmk.l1 (by omega) (by omega)
      have CW : Hid (∀ W, Fr0 wr W → kk = 3 → ∀ tt, tt = (if m.times < 0 then 0 else m.times) → Calls Tryz.prog 28 #[.pointer (some ⟨p, 0, none⟩), .int .i64 (pickR rs m.left), .int .i64 tt] W (MkPost B W p mb most (oneL L m rs).1 (oneL L m rs).2)) := by
        intro W hW h tt htt
        rw [← HKK.out] at h
        rw [oneL_power h, htt, show (if m.times < 0 then 0 else m.times) = max m.times 0 by split <;> omega]
        exact sto_PowerM (hst.kept0 hW) (Nat.le_trans hBr (Fr.size hW)) ok1 _ _ kl (by omega) (by omega)
      have CQ : Hid (∀ W, Fr0 wr W → kk ≠ 0 ∧ kk ≠ 3 → Calls Tryz.prog 29 #[.pointer (some ⟨p, 0, none⟩), .int .i64 (pickR rs m.left), .int .i64 (pickR rs m.right)] W (MkPost B W p mb most (oneL L m rs).1 (oneL L m rs).2)) := by
        rintro W hW ⟨h, h'⟩
        rw [← HKK.out] at h h'
        rw [oneL_pair h h']
        exact sto_PairM (hst.kept0 hW) (Nat.le_trans hBr (Fr.size hW)) ok1 _ _ kl kr (by omega) (by omega)
      have x1 : (0 : Int) ≤ (i : Int) := by omega
      have x2 : (i : Int) < (rs.length : Int) := by omega
      have x3 : (0 : Int) ≤ (j : Int) := by omega
      have x4 : (j : Int) < (rs.length : Int) := by omega
      have q0 : (0 : Int) ≤ (k : Int) := by omega
      have q1 : (k : Int) < (ms.length : Int) := by omega
      have q2 : decide (k < ms.length) = true := decide_eq_true hlt
      have HOWN := Lib.hid hown
      have F6 := Lib.hid ((Fr0.refl wr).alloc (.cells #[.int .i64 m.kind, .int .u8 m.letter, .int .i64 m.left, .int .i64 m.right, .int .i64 m.times] 83 (0, 0)))
      have HN := Lib.hid (alloc_at wr (.cells #[.int .i64 m.kind, .int .u8 m.letter, .int .i64 m.left, .int .i64 m.right, .int .i64 m.times] 83 (0, 0)) _ rfl)
      have ht1 := hmk.times.1
      have ht2 := hmk.times.2
      have HWG := Lib.hid hwg
      have hrl : rs.length ≤ 1000000 := by omega
      have q4 : ((k : Int) + 1 < ((allL ms).2.length : Int)) := by omega
      clear hst hwg ok1 ok2 ok3 ok4 hi hj hmk kl kr hc hrg hown HKK
      generalize hl1 : pickR rs m.left = l at *
      generalize hr1 : pickR rs m.right = r at *
      clear hl1 hr1
      generalize hL1 : (oneL L m rs).1 = L1 at *
      generalize hI1 : (oneL L m rs).2 = id1 at *
      clear hL1 hI1 ht1 ht2
      go_wp2_with fail
      have hF6 := F6.out
      generalize wr.alloc (.cells #[.int .i64 m.kind, .int .u8 m.letter, .int .i64 m.left, .int .i64 m.right, .int .i64 m.times] 83 (0, 0)) = W6 at *
      have hci6 := (hF6.cell _ _ hlb).trans hci
      have hcj6 := (hF6.cell _ _ hlb).trans hcj
      generalize wr.heap.size = NB at *
      obtain ⟨n0, n1, n2, n3, n4⟩ := cells5q HN.out
      clear c0 c1 c2 c3 c4 hci hcj hF6
      refine wp_region_quiet_lit (by kernel_rfl) (by kernel_rfl) ?_
      iterate 5 (go_big_quiet_step (fail))
      go_big_quiet_want
      go_big_quiet_op
      apply Exists.intro
      refine ⟨fun _ => ?_, ?_⟩
      · go_at_call 26
        exact Calls.quiet_of_same (CP1.out _)
      go_big_quiet_on
      iterate 7 (go_big_quiet_step (fail))
      go_big_quiet_want
      go_big_quiet_op
      apply Exists.intro
      refine ⟨fun _ => ?_, ?_⟩
      · go_at_call 26
        exact Calls.quiet_of_same (CP2.out _)
      go_big_quiet_on
      repeat (go_big_quiet_step (fail))
      refine wpQuiet_nil ?_
      intro _ hw'
      obtain ⟨nq, hw3⟩ := hw'
      subst hw3
      have hn7 : (W6.drewN nq).heap[NB]? = some (.cells #[.int .i64 m.kind, .int .u8 m.letter, .int .i64 m.left, .int .i64 m.right, .int .i64 m.times] 83 (0, 0)) := HN.out
      have F7 : Hid (Fr0 wr (W6.drewN nq)) := Lib.hid (F6.out.drewN nq)
      clear n0 n1 n2 n3 n4 hci6 hcj6
      generalize W6.drewN nq = W7 at *
      obtain ⟨n0, n1, n2, n3, n4⟩ := cells5q hn7
      clear hn7
      go_wp2_with fail
      refine (CP3.out _).mono ?_
      rintro e w7 ⟨rfl, rfl⟩
      by_cases k0 : kk = 0
      · have CM := CL
        have HKC := Lib.hid k0
        have e0 : (kk == 0) = true := beq_iff_eq.2 k0
        clear k0 CL CW CQ
        go_wp2_with fail
        refine (CM.out _ F7.out HKC.out).mono ?_
        rintro e w8 ⟨ev, rfl, hs8, hk8⟩
        have HS8 := Lib.hid hs8
        have K8 : Hid (Kp B mb wr w8) := Lib.hid ((Kp.of0 F7.out).trans hk8)
        have hgw := HWG.out.keptK K8.out
        obtain ⟨wb, woff, hwb, wlb, _, wc⟩ := hgw (k + 1) hlk
        have wc0 := wc 0 _ rfl
        rw [Nat.mul_one, Nat.add_zero, HWN.out] at wc0
        have HROW := Lib.hid (K8.out.owns HOWN.out (by decide) (by decide))
        have hsz8 : w1.heap.size ≤ w8.heap.size := Nat.le_trans HKP.out.size K8.out.size
        subst hwb
        clear hs8 hk8 hgw wc n0 n1 n2 n3 n4
        go_wp2_with (at_builtin; refine wpList_pushR rt_id rfl _ _ rfl w1.heap.size _ rs rfl HROW.out (by simpa using hsz8) 38 id1 1 w8.heap.size (by simp) rfl hrl ?_; intro v' w9 hO9 hg9 hat9)
        have hX : LbR B p mb most w1 w9 ms (k + 1) v' := by
          refine ⟨Kp.grown ((HKP.out.trans K8.out).alloc _) hg9 (fun j hj => (HROW.out.lt j hj).1), ?_, ?_⟩
          · rw [HTK.out]
            exact Sto.push HS8.out HROW.out (by decide) (by decide) hg9
          · rw [HTK.out]
            exact hO9
        go_roundw
        case rel => exact ⟨k + 1, by omega, by go_num, hX⟩
        case measure => simp [intOf]; omega
      · have e0 : (kk == 0) = false := beq_eq_false_iff_ne.2 k0
        by_cases k3 : kk = 3
        · have HKC := Lib.hid k3
          have e3 : (kk == 3) = true := beq_iff_eq.2 k3
          by_cases ht0 : 0 ≤ m.times
          · have CM := Lib.hid (fun W hW h => CW.out W hW h m.times (by rw [if_neg (by omega)]))
            clear k0 k3 CL CW CQ
            go_wp2_with fail
            refine (CM.out _ F7.out HKC.out).mono ?_
            rintro e w8 ⟨ev, rfl, hs8, hk8⟩
            have HS8 := Lib.hid hs8
            have K8 : Hid (Kp B mb wr w8) := Lib.hid ((Kp.of0 F7.out).trans hk8)
            have hgw := HWG.out.keptK K8.out
            obtain ⟨wb, woff, hwb, wlb, _, wc⟩ := hgw (k + 1) hlk
            have wc0 := wc 0 _ rfl
            rw [Nat.mul_one, Nat.add_zero, HWN.out] at wc0
            have HROW := Lib.hid (K8.out.owns HOWN.out (by decide) (by decide))
            have hsz8 : w1.heap.size ≤ w8.heap.size := Nat.le_trans HKP.out.size K8.out.size
            subst hwb
            clear hs8 hk8 hgw wc n0 n1 n2 n3 n4
            go_wp2_with (at_builtin; refine wpList_pushR rt_id rfl _ _ rfl w1.heap.size _ rs rfl HROW.out (by simpa using hsz8) 38 id1 1 w8.heap.size (by simp) rfl hrl ?_; intro v' w9 hO9 hg9 hat9)
            have hX : LbR B p mb most w1 w9 ms (k + 1) v' := by
              refine ⟨Kp.grown ((HKP.out.trans K8.out).alloc _) hg9 (fun j hj => (HROW.out.lt j hj).1), ?_, ?_⟩
              · rw [HTK.out]
                exact Sto.push HS8.out HROW.out (by decide) (by decide) hg9
              · rw [HTK.out]
                exact hO9
            go_roundw
            case rel => exact ⟨k + 1, by omega, by go_num, hX⟩
            case measure => simp [intOf]; omega
          · have CM := Lib.hid (fun W hW h => CW.out W hW h 0 (by rw [if_pos (by omega)]))
            clear k0 k3 CL CW CQ
            go_wp2_with fail
            refine (CM.out _ F7.out HKC.out).mono ?_
            rintro e w8 ⟨ev, rfl, hs8, hk8⟩
            have HS8 := Lib.hid hs8
            have K8 : Hid (Kp B mb wr w8) := Lib.hid ((Kp.of0 F7.out).trans hk8)
            have hgw := HWG.out.keptK K8.out
            obtain ⟨wb, woff, hwb, wlb, _, wc⟩ := hgw (k + 1) hlk
            have wc0 := wc 0 _ rfl
            rw [Nat.mul_one, Nat.add_zero, HWN.out] at wc0
            have HROW := Lib.hid (K8.out.owns HOWN.out (by decide) (by decide))
            have hsz8 : w1.heap.size ≤ w8.heap.size := Nat.le_trans HKP.out.size K8.out.size
            subst hwb
            clear hs8 hk8 hgw wc n0 n1 n2 n3 n4
            go_wp2_with (at_builtin; refine wpList_pushR rt_id rfl _ _ rfl w1.heap.size _ rs rfl HROW.out (by simpa using hsz8) 38 id1 1 w8.heap.size (by simp) rfl hrl ?_; intro v' w9 hO9 hg9 hat9)
            have hX : LbR B p mb most w1 w9 ms (k + 1) v' := by
              refine ⟨Kp.grown ((HKP.out.trans K8.out).alloc _) hg9 (fun j hj => (HROW.out.lt j hj).1), ?_, ?_⟩
              · rw [HTK.out]
                exact Sto.push HS8.out HROW.out (by decide) (by decide) hg9
              · rw [HTK.out]
                exact hO9
            go_roundw
            case rel => exact ⟨k + 1, by omega, by go_num, hX⟩
            case measure => simp [intOf]; omega
        · have CM := CQ
          have HKC := Lib.hid (And.intro k0 k3)
          have e3 : (kk == 3) = false := beq_eq_false_iff_ne.2 k3
          clear k0 k3 CL CW CQ
          go_wp2_with fail
          refine (CM.out _ F7.out HKC.out).mono ?_
          rintro e w8 ⟨ev, rfl, hs8, hk8⟩
          have HS8 := Lib.hid hs8
          have K8 : Hid (Kp B mb wr w8) := Lib.hid ((Kp.of0 F7.out).trans hk8)
          have hgw := HWG.out.keptK K8.out
          obtain ⟨wb, woff, hwb, wlb, _, wc⟩ := hgw (k + 1) hlk
          have wc0 := wc 0 _ rfl
          rw [Nat.mul_one, Nat.add_zero, HWN.out] at wc0
          have HROW := Lib.hid (K8.out.owns HOWN.out (by decide) (by decide))
          have hsz8 : w1.heap.size ≤ w8.heap.size := Nat.le_trans HKP.out.size K8.out.size
          subst hwb
          clear hs8 hk8 hgw wc n0 n1 n2 n3 n4
          go_wp2_with (at_builtin; refine wpList_pushR rt_id rfl _ _ rfl w1.heap.size _ rs rfl HROW.out (by simpa using hsz8) 38 id1 1 w8.heap.size (by simp) rfl hrl ?_; intro v' w9 hO9 hg9 hat9)
          have hX : LbR B p mb most w1 w9 ms (k + 1) v' := by
            refine ⟨Kp.grown ((HKP.out.trans K8.out).alloc _) hg9 (fun j hj => (HROW.out.lt j hj).1), ?_, ?_⟩
            · rw [HTK.out]
              exact Sto.push HS8.out HROW.out (by decide) (by decide) hg9
            · rw [HTK.out]
              exact hO9
          go_roundw
          case rel => exact ⟨k + 1, by omega, by go_num, hX⟩
          case measure => simp [intOf]; omega
    · have hke : ms.take k = ms := List.take_of_length_le (by omega)
      have q2 : decide (k < ms.length) = false := decide_eq_false hlt
      have hst := hr.st
      have hown := hr.own
      rw [hke] at hst hown
      have HST2 := Lib.hid hst
      have HOWN := Lib.hid hown
      have HKP := Lib.hid hr.kp
      obtain ⟨ca, ccap, rfl⟩ := owns_form hr.own
      clear hr hst hown hke ok1 ok2 ok3 ok4
      go_wp2_with fail
      go_ret2
      exact ⟨_, rfl, HST2.out, (Kp.of0 HF1.out).trans HKP.out, owns_lowI HOWN.out HS1.out⟩

end Go.Proofs.YtodmpcnpedpheaaGreatDoor

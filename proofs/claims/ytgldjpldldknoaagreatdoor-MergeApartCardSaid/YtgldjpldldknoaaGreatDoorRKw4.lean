/- The walk of keys.row. -/
import Derived.Test.YtgldjpldldknoaaGreatDoorRKr0
import Derived.Deep.LoopGhost
set_option linter.unusedSimpArgs false
set_option linter.unusedVariables false
namespace Go.Proofs.YtgldjpldldknoaaGreatDoor
open Go.RowKit
theorem own_last {w : World} {base : Nat} {T : TypeId} {v : Value} {td : List Int} {x : Int} (h : w.ownsRow base T 1 v (td ++ [x]).length ((td ++ [x]).map fun x => Value.int .i64 x)) :
    ∃ g vc, v = .slice (some ⟨g, 0, none⟩) (td.length + 1) vc ∧ g < w.heap.size ∧ w.cell? ⟨g, td.length, none⟩ = some (.int .i64 x) ∧ td.length + 1 ≤ vc ∧ vc ≤ maxLen := by
 have hl : (td ++ [x]).length = td.length + 1 := by simp
 have h' := h
 rcases h.2 with ⟨_, e⟩ | ⟨g, cap, cur, e, hb, hg, hn1, hn2, _⟩
 · rw [hl] at e; omega
 · rw [hl] at e
   subst e
   refine ⟨g, cap, rfl, lt_of_block hg, ?_, by rw [hl] at hn1; exact hn1, hn2⟩
   have hc := h'.cells (g := g) rfl td.length (.int .i64 x) (by simp)
   simpa only [Addr.add_lit, Nat.zero_add] using hc
theorem dec_len : ∀ (td : List Int) (m : Nat), td.Pairwise (fun a b => b < a) → (∀ x ∈ td, 1 ≤ x ∧ x ≤ m) → td.length ≤ m
 | [], m, _, _ => Nat.zero_le _
 | a :: r, m, h, hr => by
  have ha := hr a (by simp)
  rw [List.pairwise_cons] at h
  have := dec_len r (a.toNat - 1) h.2 (fun x hx => by have := h.1 x hx; have := (hr x (by simp [hx])).1; omega)
  simp only [List.length_cons]
  omega
theorem stk_top {T : List KRow} {id : Int} {td : List Int} {n : Nat} (h : Stk T id td) (hn : id.toNat = n := by rfl) : (td.getLast?.getD 0).toNat ≤ n := by
 cases hl : td.getLast? with
 | none => simp
 | some x =>
  have := h.rng x (List.mem_of_getLast? hl)
  simp only [Option.getD_some]
  omega
set_option maxRecDepth 100000 in
set_option maxHeartbeats 4000000 in
theorem keys_row {B : Nat} {w : World} {pp tp p mb : Nat} {most : Int} {L : List Ent} {T : List KRow} (h : Pq B w pp tp p mb most L T) (id : Int) (hk : isKnown L id) (h0 : id ≠ 0) :
    Calls Tryz.prog 114 #[.pointer (some ⟨tp, 0, none⟩), .int .i64 id] w (RowPost B w pp tp p mb most L id) := by
 have hid1 : 1 ≤ id := by have := hk.1; omega
 have hidL : id ≤ (L.length : Int) := hk.2
 have hbig := h.big
 have HHP := Lib.hid h
 obtain ⟨hBt, rv, htp, hrv⟩ := h.tab
 obtain ⟨c0, c1, _, ltp⟩ := cells2 htp
 have CL := Lib.hid (fun W (hW : Fr0 w W) => sto_LenQ (h.st.kept0 hW))
 have q1 : decide (id < 1) = false := decide_eq_false (by omega)
 have q2 : decide ((L.length : Int) < id) = false := decide_eq_false (by omega)
 have F0 : Fr0 w (w.alloc (.cells #[.int .u64 0, .int .i64 0, .bool false] 208 (0, 0))) := (Fr0.refl w).alloc _
 obtain ⟨ra, rcap, rfl⟩ := owns_form hrv
 have HRV := Lib.hid hrv
 have HTP := Lib.hid htp
 clear h hrv
 obtain ⟨i0, hi0, hz0, hz1, hz2⟩ := info_parts info_krow
 have hu : Tryz.prog.underlying 128 = some (.slice 208) := Tryz.underlying128
 have htn : Tryz.prog.underlying 3 = some (.int .i64) := Tryz.underlying3
 go_enter Tryz.func114, Tryz.ntmps114
 go_wp2_with fail
 refine (CL.out _ F0).mono ?_
 rintro e w1 ⟨rfl, rfl⟩
 go_upto_if 40 with fail
 have b0 := alloc_at w (.cells #[.int .u64 0, .int .i64 0, .bool false] 208 (0, 0)) w.heap.size rfl
 generalize hW1 : w.alloc (.cells #[.int .u64 0, .int .i64 0, .bool false] 208 (0, 0)) = W1 at *
 have htp1 := F0.kept htp
 generalize hR : w.heap.size = R at *
 have HRE := Lib.hid hR
 have HB0 := Lib.hid b0
 have HF0 := Lib.hid F0
 clear hR b0
 clear c0 c1 htp
 obtain ⟨c0, c1, cf, ltp1⟩ := cells2 htp1
 go_cut [] (fun wx => ZrR B w wx pp tp p mb most L R id.toNat)
 case first =>
  by_cases hlt : id.toNat < T.length
  · have q3 : decide ((T.length : Int) ≤ id) = false := decide_eq_false (by omega)
    go_wp2_with fail
    go_meet
    exact zr_same HHP.out HF0.out HRE.out HTP.out HRV.out HB0.out hlt
  · have q3 : decide ((T.length : Int) ≤ id) = true := decide_eq_true (by omega)
    obtain ⟨m, hm⟩ : ∃ m : Nat, T.length + m = id.toNat + 1 := ⟨id.toNat + 1 - T.length, by omega⟩
    have HMX : Hid (IntKind.i64.wrap (IntKind.i64.wrap (id + 1) - (T.length : Int)) = ((m : Nat) : Int)) := by
     show _ = _
     rw [wrapI (x := id + 1) (by omega) (by omega), wrapI (by omega) (by omega)]
     omega
    have hm0 : 0 < m := by omega
    have hown1 := HF0.out.owns HRV.out
    have hz1c : ∀ u ∈ (Builtin.zeroCells (Value.agg #[.int .u64 0, .int .i64 0, .bool false]).cells m).toList, u.oneCell' = true := zeroRows_one m
    have hn63 : T.length + m ≤ maxLen := by unfold maxLen; omega
    have hby : (T.length + m) * 24 ≤ 140737488355328 := by omega
    have hbs : B ≤ W1.drew.heap.size := by have := HHP.out.base; have := Fr.size HF0.out; simp; omega
    have HM := Lib.hid hm
    clear hm
    go_wp2_with fail
    go_region_law ((refine step_zeros (by rfl) _ _ _ _ (by rfl) B 208 i0 _ 3 24 hu htn hi0 hz0 hz1 hz2 rfl (by omega) (.slice ra T.length rcap) T.length (T.flatMap KRow.vals) (by rfl) hown1.drew m (by exact congrArg (Value.int .i64) HMX.out) hm0 hz1c hn63 hby hbs ?_; intro v1 w1 hr1 hg1 hl1; obtain ⟨va1, vc1, rfl⟩ := owns_form hr1; obtain ⟨d0, d1, df, ld⟩ := cells2 (zr_tp HF0.out HTP.out HRV.out hg1)))
    all_goals
     go_wp2_with fail
     go_meet
     exact zr_more HHP.out HF0.out HRE.out HTP.out HRV.out HB0.out HM.out (by omega) hr1 hg1 hl1
 case rest =>
  clear CL q2 HRV HTP HB0 HF0 c0 c1 cf ltp1 htp1 F0 hu htn i0 hi0 hz0 hz1 hz2
  obtain ⟨⟨T1, hP1, hlt1⟩, hkx, hrs, hne⟩ := hcut
  obtain ⟨rb, cap1, cur1, hrb, htp2, hcur, how, hrow⟩ := hP1.tab.open (by omega)
  obtain ⟨c0, c1, cf, ltp1⟩ := cells2 htp2
  obtain ⟨x0, x1, x2⟩ := hrow id.toNat hlt1
  have HP1 := Lib.hid hP1
  have HKX := Lib.hid hkx
  have HRS := Lib.hid hrs
  have HNE := Lib.hid hne
  have lrb := lt_of_block hcur
  obtain ⟨n, hn⟩ : ∃ n : Nat, id = n := ⟨id.toNat, by omega⟩
  subst hn
  have hkX : Hid (isKnown L n) := hk
  simp only [Int.toNat_natCast] at *
  clear htp2 hcur how hrow hP1 hkx hrs hne
  have q3 : (0 : Int) ≤ (n : Int) := by omega
  have q4 : (n : Int) < (T1.length : Int) := by omega
  go_upto_if 65 with fail
  go_cut [6] (fun v wx => ∃ T td, RwR B w wx pp tp p mb most L n R T td v)
  case first =>
   have HRE2 := Lib.hid HRE.out
   cases hkn : T1[n].kn with
   | true =>
    rw [hkn] at x2
    go_wp2_with fail
    go_meet
    exact ⟨T1, [], RwR.start HP1.out hlt1 HKX.out HRS.out HNE.out hkn⟩
   | false =>
    rw [hkn] at x2
    have hbs : w.heap.size ≤ wc.heap.size := HKX.out.size
    have HRX := Lib.hid (fun v' w4 o hO hg => @RwR.first B w wc w4 pp tp p mb most L R n T1 v' o HP1.out hlt1 HKX.out (by omega) HRS.out HNE.out hkn hO hg)
    have HNI : Hid (wc.ownsRow w.heap.size 28 1 (.slice none 0 0) ([] : List Int).length (([] : List Int).map fun x => Value.int .i64 x)) := World.ownsRow_nil _ _ _ _
    go_wp2_with (at_builtin; refine wpList_pushR rt_id rfl _ _ rfl w.heap.size (.slice none 0 0) [] rfl HNI.out hbs 28 (n : Int) 1 _ rfl rfl (by simp) ?_; intro v' w4 hO4 hg4 hat4)
    go_wp2_with fail
    go_meet
    exact ⟨T1, [(n : Int)], HRX.out _ _ _ hO4 hg4⟩
  case rest =>
   clear HP1 HKX HRS HNE c0 c1 cf x0 x1 x2 q4 q3
   obtain ⟨T0, td0, hr0⟩ := hcut
   have HR0 := Lib.hid hr0
   clear hr0
   have hB0 : Hid (B ≤ w.heap.size) := HHP.out.base
   go_wp2_with fail
   go_loopg [6] (unk T0 * (n + 2) + n) (fun gk v wr => ∃ T td, RwR B w wr pp tp p mb most L n R T td v ∧ unk T * (n + 2) + (td.getLast?.getD 0).toNat ≤ gk)
   case atStart => exact ⟨T0, td0, HR0.out, Nat.add_le_add_left (stk_top HR0.out.stk) _⟩
   case round =>
    clear HR0
    obtain ⟨T, td, hr, hm⟩ := hrel
    obtain ⟨rb, cap, cur, hrb, hrbR, htp, hcur, how, hrow⟩ := hr.tpb
    obtain ⟨c0, c1, cf, ltp⟩ := cells2 htp
    have hidt := hr.idt
    simp only [Int.toNat_natCast] at hidt
    have HR := Lib.hid hr
    rcases List.eq_nil_or_concat td with rfl | ⟨td', x, htd⟩
    · obtain ⟨va, vc, rfl⟩ := owns_form hr.tdo
      obtain ⟨hlt, hkn⟩ := hr.top rfl
      have e := hr.pq.ok.at hlt hkn
      simp only [Int.toNat_natCast] at hlt e
      obtain ⟨x0, x1, x2⟩ := hrow n hlt
      rw [e] at x0 x1 x2
      simp only [krow] at x0 x1 x2
      have hrs := hr.rs
      obtain ⟨y0, y1, y2, yf, ly⟩ := cells3 hrs
      have q3 : (0 : Int) ≤ (n : Int) := by omega
      have q4 : (n : Int) < (T.length : Int) := by omega
      obtain ⟨kk, hkk⟩ : ∃ k, kkey L n = k := ⟨_, rfl⟩
      obtain ⟨kl, hkl⟩ : ∃ k, klev L n = k := ⟨_, rfl⟩
      rw [hkk] at x0
      rw [hkl] at x1
      have HKK := Lib.hid hkk
      have HKL := Lib.hid hkl
      obtain ⟨o0, o1, o2, _, _⟩ := cells3 (put3 hrs (.int .u64 kk) (.int .i64 kl) (.bool true))
      clear hkk hkl
      clear hr hrow how hcur htp hm hrs e hkn
      go_wp2_with fail
      refine bodyPost_ret (v := .tuple #[.agg #[.int .u64 kk, .int .i64 kl, .bool true], .nilIface]) (by simp [results, Tryz.results114, go_sem, o0, o1, o2]) rfl ?_
      rw [← HKK.out, ← HKL.out]
      have hd := HR.out.done (f := fun i => if i = 0 then .int .u64 (kkey L n) else if i = 1 then .int .i64 (klev L n) else .bool true) hB0.out HRE.out
      exact hd
    · rw [List.concat_eq_append] at htd
      subst htd
      have hlen : (td' ++ [x]).length = td'.length + 1 := by simp
      have htdo := hr.tdo
      obtain ⟨b, vc, rfl, lb, hcell, hvc1, hvc2⟩ := own_last htdo
      have hvc3 : vc ≤ 9223372036854775807 := by unfold maxLen at hvc2; exact hvc2
      have hvc4 : ¬ vc = 0 := by omega
      have HVC := Lib.hid hvc2
      clear hvc2
      have hx := hr.stk.rng x (by simp)
      have hdl := dec_len _ n hr.stk.dec (fun y hy => hr.stk.rng y hy)
      rw [hlen] at hdl
      have HLEN := Lib.hid hlen
      obtain ⟨xn, hxn⟩ : ∃ k : Nat, x = k := ⟨x.toNat, by omega⟩
      subst hxn
      have hpq := hr.pq
      have hk : isKnown L (xn : Int) := ⟨by omega, by have := HHP.out; omega⟩
      have hx0 : (xn : Int) ≠ 0 := by omega
      obtain ⟨⟨k1, k2⟩, ⟨l1, l2⟩, ⟨r1, r2⟩, ⟨n1, n2⟩, ⟨m1, m2⟩⟩ := rule_rng hpq.sok hpq.dok hpq.uq hk hx0
      have CRU := Lib.hid (sto_Rule hpq.st (xn : Int) hk hx0)
      have HCMP := Lib.hid (fun a la b lb => @cmp_krow L hpq.dok (xn : Int) hk hx0 a la b lb)
      have hgl : (td' ++ [(xn : Int)]).getLast? = some (xn : Int) := by simp
      rw [hgl] at hm
      simp only [Option.getD_some] at hm
      obtain ⟨kd, hkd⟩ : ∃ k, (entAt L (xn : Int)).rule.kind = k := ⟨_, rfl⟩
      obtain ⟨le, hle⟩ : ∃ k, (entAt L (xn : Int)).rule.letter = k := ⟨_, rfl⟩
      obtain ⟨tm, htm⟩ : ∃ k, (entAt L (xn : Int)).rule.times = k := ⟨_, rfl⟩
      obtain ⟨l, hl⟩ : ∃ k : Nat, (entAt L (xn : Int)).rule.left = k := ⟨(entAt L (xn : Int)).rule.left.toNat, by omega⟩
      obtain ⟨r, hr'⟩ : ∃ k : Nat, (entAt L (xn : Int)).rule.right = k := ⟨(entAt L (xn : Int)).rule.right.toNat, by omega⟩
      rw [hkd, hle, htm, hl, hr'] at CRU HCMP
      rw [hkd] at k1 k2
      rw [hle] at n1 n2
      rw [htm] at m1 m2
      rw [hl] at l1 l2
      rw [hr'] at r1 r2
      clear hkd hle htm hl hr'
      obtain ⟨xl0, xl1, xl2⟩ := hrow l (by omega)
      obtain ⟨xr0, xr1, xr2⟩ := hrow r (by omega)
      have HXX := Lib.hid (hrow xn (by omega))
      have HUN := Lib.hid (unk_set T xn (by omega) (krow L xn) (hr.stk.un (xn : Int) (by simp) (by simp; omega)) rfl)
      have HAT := Lib.hid (fun i hi hk => hpq.ok.at (i := i) hi hk)
      have HCUR := Lib.hid hcur
      have hTr := fun i hi => hpq.ok.rng hpq.dok (by have := hpq.big; omega) i hi
      have tl := hTr l (by omega)
      have tr := hTr r (by omega)
      have q1 : (0 : Int) ≤ (l : Int) := by omega
      have q2 : (l : Int) < (T.length : Int) := by omega
      have q3 : (0 : Int) ≤ (r : Int) := by omega
      have q4 : (r : Int) < (T.length : Int) := by omega
      have q5 : (0 : Int) ≤ (td'.length : Int) := by omega
      have hgp : gk ≠ 0 := by omega
      clear hr htdo hpq hrow how hcur hTr hgl
      go_wp2_with fail
      refine CRU.out.mono ?_
      rintro e w2 ⟨rfl, hf2⟩
      go_wp2_with fail
      have FW : Fr0 wr (w2.alloc (.cells #[.int .i64 kd, .int .u8 le, .int .i64 l, .int .i64 r, .int .i64 tm] 82 (0, 0))) := hf2.alloc _
      have b8 := alloc_at w2 (.cells #[.int .i64 kd, .int .u8 le, .int .i64 l, .int .i64 r, .int .i64 tm] 82 (0, 0)) w2.heap.size rfl
      generalize w2.alloc (.cells #[.int .i64 kd, .int .u8 le, .int .i64 l, .int .i64 r, .int .i64 tm] 82 (0, 0)) = W3 at *
      generalize w2.heap.size = K at *
      have RD : Rd2 wr tp rb T.length cap l r T[l].key T[l].lev T[r].key T[r].lev T[l].kn T[r].kn := ⟨c1, xl0, xl1, xl2, xr0, xr1, xr2, by omega, by omega⟩
      have HRD := Lib.hid (RD.kept0 FW)
      have HFW := Lib.hid FW
      have htp3 := FW.kept htp
      have HTP := Lib.hid htp
      clear c0 c1 cf ltp xl0 xl1 xl2 xr0 xr1 xr2 RD CRU htp hcell
      obtain ⟨c0, c1, cf, ltp⟩ := cells2 htp3
      obtain ⟨t1, l0, l1, l2, r0, r1, r2, _, _⟩ := HRD.out
      obtain ⟨e0, e1, e2, e3, e4, le8⟩ := cells5 b8
      have hbs : w.heap.size ≤ W3.heap.size := Nat.le_trans HR.out.kx.size (Fr.size FW)
      have HB8 := Lib.hid b8
      have HLK : Hid (T[l].kn = true → T[l].key = kkey L l ∧ T[l].lev = klev L l) := fun h => by rw [HAT.out l _ h]; exact ⟨rfl, rfl⟩
      have HRK : Hid (T[r].kn = true → T[r].key = kkey L r ∧ T[r].lev = klev L r) := fun h => by rw [HAT.out r _ h]; exact ⟨rfl, rfl⟩
      have q6 : (xn : Int) < (T.length : Int) := by omega
      have q7 : (0 : Int) ≤ (xn : Int) := by omega
      clear HAT
      generalize T[l].key = lk at *
      generalize T[l].lev = ll at *
      generalize hkl : T[l].kn = kl at *
      generalize T[r].key = rk at *
      generalize T[r].lev = rl at *
      generalize hkr : T[r].kn = kr at *
      have HKL := Lib.hid hkl
      have HKR := Lib.hid hkr
      clear hkl hkr htp3 b8 FW hf2
      go_cut [106] (fun s wx => s = .bool (decide (l ≠ 0) && !kl) ∧ Fr0 W3 wx)
      case first =>
       by_cases hl0 : l = 0
       · have q6 : ((l : Int) != 0) = false := by simp [hl0]
         have q7 : (decide (l ≠ 0) && !kl) = false := by simp [hl0]
         go_quiet (fail)
         go_wp2_with fail
         go_meet
         exact ⟨by rw [q7], by repeat (first | exact Fr0.refl _ | refine Fr0.drew ?_ | refine Fr0.drewN ?_ _)⟩
       · have q6 : ((l : Int) != 0) = true := by simp; omega
         have q7 : (decide (l ≠ 0) && !kl) = !kl := by simp [hl0]
         go_quiet (fail)
         go_wp2_with fail
         go_meet
         exact ⟨by rw [q7], by repeat (first | exact Fr0.refl _ | refine Fr0.drew ?_ | refine Fr0.drewN ?_ _)⟩
      case rest =>
       obtain ⟨rfl, hfq⟩ := hcut
       have HRD2 := Lib.hid (HRD.out.kept0 hfq)
       have HFW2 := Lib.hid (HFW.out.trans hfq)
       have b8 := hfq.kept HB8.out
       have HB82 := Lib.hid b8
       have htp3 := HFW2.out.kept HTP.out
       have hbs2 : w.heap.size ≤ wc.heap.size := Nat.le_trans hbs (Fr.size hfq)
       clear c0 c1 cf ltp t1 l0 l1 l2 r0 r1 r2 e0 e1 e2 e3 e4 le8 hbs HB8 HRD HFW
       obtain ⟨c0, c1, cf, ltp⟩ := cells2 htp3
       obtain ⟨t1, l0, l1, l2, r0, r1, r2, _, _⟩ := HRD2.out
       obtain ⟨e0, e1, e2, e3, e4, le8⟩ := cells5 b8
       clear htp3 b8 hfq
       cases hbl : (decide (l ≠ 0) && !kl) with
       | true =>
        obtain ⟨g1, g2⟩ : l ≠ 0 ∧ kl = false := by
         rw [Bool.and_eq_true, decide_eq_true_eq, Bool.not_eq_true'] at hbl
         exact hbl
        have HKY : Hid (T[l].kn = false) := HKL.out.trans g2
        clear HKL HKR g2
        have HRX := Lib.hid (fun v' w4 o hO hg => @RwR.push B w wr wc w4 pp tp p mb most L n R T (td' ++ [(xn : Int)]) (.slice (some ⟨b, 0, none⟩) (td'.length + 1) vc) v' (l : Int) o HR.out HFW2.out hB0.out hO hg (HR.out.stk.push (by omega) (by omega) (fun h => by simpa using HKY.out)) (by simp))
        have HNI : Hid (wc.ownsRow w.heap.size 28 1 (.slice (some ⟨b, 0, none⟩) (td'.length + 1) vc) (td' ++ [(xn : Int)]).length ((td' ++ [(xn : Int)]).map fun x => Value.int .i64 x)) := HFW2.out.owns HR.out.tdo
        have hll : (td' ++ [(xn : Int)]).length ≤ 1000000 := by have := HHP.out.big; rw [hlen]; omega
        go_wp2_with (at_builtin; refine wpList_pushR rt_id rfl _ _ rfl w.heap.size (.slice (some ⟨b, 0, none⟩) (td'.length + 1) vc) (td' ++ [(xn : Int)]) rfl HNI.out hbs2 28 (l : Int) 1 _ rfl rfl hll ?_; intro v' w4 hO4 hg4 hat4)
        go_wp2_with fail
        go_roundg (unk T * (n + 2) + l)
        case measure => omega
        case rel => exact ⟨T, (td' ++ [(xn : Int)]) ++ [(l : Int)], HRX.out _ _ _ hO4 hg4, by simp⟩
       | false =>
        have HL : Hid (l ≠ 0 → kl = true) := by
         intro h
         cases kl with
         | true => rfl
         | false => rw [decide_eq_true h] at hbl; cases hbl
        go_wp2_with fail
        obtain ⟨W4, hW4⟩ : ∃ W, W = wc := ⟨_, rfl⟩
        subst hW4
        go_cut [127] (fun s wx => s = .bool (decide (r ≠ 0) && !kr) ∧ Fr0 W4 wx)
        case first =>
         by_cases hr0 : r = 0
         · have q8 : ((r : Int) != 0) = false := by simp [hr0]
           have q9 : (decide (r ≠ 0) && !kr) = false := by simp [hr0]
           go_quiet (fail)
           go_wp2_with fail
           go_meet
           exact ⟨by rw [q9], by repeat (first | exact Fr0.refl _ | refine Fr0.drew ?_ | refine Fr0.drewN ?_ _)⟩
         · have q8 : ((r : Int) != 0) = true := by simp; omega
           have q9 : (decide (r ≠ 0) && !kr) = !kr := by simp [hr0]
           go_quiet (fail)
           go_wp2_with fail
           go_meet
           exact ⟨by rw [q9], by repeat (first | exact Fr0.refl _ | refine Fr0.drew ?_ | refine Fr0.drewN ?_ _)⟩
        case rest =>
         obtain ⟨rfl, hfq⟩ := hcut
         have HRD3 := Lib.hid (HRD2.out.kept0 hfq)
         have HFW3 := Lib.hid (HFW2.out.trans hfq)
         have b8 := hfq.kept HB82.out
         have HB83 := Lib.hid b8
         have htp3 := HFW3.out.kept HTP.out
         have hbs3 : w.heap.size ≤ wc.heap.size := Nat.le_trans hbs2 (Fr.size hfq)
         clear c0 c1 cf ltp t1 l0 l1 l2 r0 r1 r2 e0 e1 e2 e3 e4 le8 hbs2 HB82 HRD2 HFW2
         obtain ⟨c0, c1, cf, ltp⟩ := cells2 htp3
         obtain ⟨t1, l0, l1, l2, r0, r1, r2, _, _⟩ := HRD3.out
         obtain ⟨e0, e1, e2, e3, e4, le8⟩ := cells5 b8
         clear htp3 b8 hfq
         cases hbr : (decide (r ≠ 0) && !kr) with
         | true =>
          obtain ⟨g1, g2⟩ : r ≠ 0 ∧ kr = false := by
           rw [Bool.and_eq_true, decide_eq_true_eq, Bool.not_eq_true'] at hbr
           exact hbr
          have HKY : Hid (T[r].kn = false) := HKR.out.trans g2
          clear HKL HKR g2 HL
          have HRX := Lib.hid (fun v' w4 o hO hg => @RwR.push B w wr wc w4 pp tp p mb most L n R T (td' ++ [(xn : Int)]) (.slice (some ⟨b, 0, none⟩) (td'.length + 1) vc) v' (r : Int) o HR.out HFW3.out hB0.out hO hg (HR.out.stk.push (by omega) (by omega) (fun h => by simpa using HKY.out)) (by simp))
          have HNI : Hid (wc.ownsRow w.heap.size 28 1 (.slice (some ⟨b, 0, none⟩) (td'.length + 1) vc) (td' ++ [(xn : Int)]).length ((td' ++ [(xn : Int)]).map fun x => Value.int .i64 x)) := HFW3.out.owns HR.out.tdo
          have hll : (td' ++ [(xn : Int)]).length ≤ 1000000 := by have := HHP.out.big; rw [HLEN.out]; omega
          go_wp2_with (at_builtin; refine wpList_pushR rt_id rfl _ _ rfl w.heap.size (.slice (some ⟨b, 0, none⟩) (td'.length + 1) vc) (td' ++ [(xn : Int)]) rfl HNI.out hbs3 28 (r : Int) 1 _ rfl rfl hll ?_; intro v' w4 hO4 hg4 hat4)
          go_wp2_with fail
          go_roundg (unk T * (n + 2) + r)
          case measure => omega
          case rel => exact ⟨T, (td' ++ [(xn : Int)]) ++ [(r : Int)], HRX.out _ _ _ hO4 hg4, by simp⟩
         | false =>
          have HRR : Hid (r ≠ 0 → kr = true) := by
           intro h
           cases kr with
           | true => rfl
           | false => rw [decide_eq_true h] at hbr; cases hbr
          have HCX := Lib.hid (HCMP.out lk ll rk rl (fun h => HLK.out (HL.out (by omega))) (fun h => HRK.out (HRR.out (by omega))))
          have hT0 : Hid (∀ W, Fr0 wc W → TabAt 0 Lib.deBruijn64tab W) := fun W hW => ((HR.out.pq.deb).low (fun k _ h2 => (HFW3.out.trans hW).block k h2 id)).2
          have CC := Lib.hid (fun W (hW : Fr0 wc W) => keys_compute (HRD3.out.kept0 hW) (by have := HHP.out.big; have := HR.out.pq.tl; omega) kd le tm n1 n2 ⟨k1, k2⟩ tl.1 tr.1 ⟨m1, m2⟩ tl.2 tr.2 (hT0.out W hW))
          rw [HCX.out] at CC
          have hKrb : K ≠ rb := fun e => by
           have h1 := HB83.out
           have h2 := HFW3.out.kept HCUR.out
           rw [e] at h1
           exact ne_of_types h1 h2 (by decide) rfl
          have htprb : tp ≠ rb := fun e => by
           have h1 := HTP.out
           rw [e] at h1
           exact ne_of_types h1 HCUR.out (by decide) rfl
          have HKEY : Hid (∀ W, Fr (fun k => k = rb) wc W → W.cell? ⟨tp, 1, none⟩ = some (.slice (some ⟨rb, 0, none⟩) T.length cap) ∧ W.cell? ⟨K, 0, none⟩ = some (.int .i64 kd) ∧ W.cell? ⟨K, 1, none⟩ = some (.int .u8 le) ∧ W.cell? ⟨K, 2, none⟩ = some (.int .i64 l) ∧ W.cell? ⟨K, 3, none⟩ = some (.int .i64 r) ∧ W.cell? ⟨K, 4, none⟩ = some (.int .i64 tm)) := by
           intro W hW
           obtain ⟨y0, y1, y2, y3, y4, _⟩ := cells5 (hW.kept HB83.out hKrb)
           exact ⟨(cells2 (hW.kept (HFW3.out.kept HTP.out) htprb)).2.1, y0, y1, y2, y3, y4⟩
          obtain ⟨k3, hk3⟩ : ∃ z, kkey L xn = z := ⟨_, rfl⟩
          obtain ⟨k4, hk4⟩ : ∃ z, klev L xn = z := ⟨_, rfl⟩
          rw [hk3, hk4] at CC
          have HK3 := Lib.hid hk3
          have HK4 := Lib.hid hk4
          clear hk3 hk4 HCX HCMP HLK HRK HL HRR HKL HKR
          go_wp2_with fail
          go_region_held3 (fun w' => w'.cell? ⟨tp, 1, none⟩ = some (.slice (some ⟨rb, 0, none⟩) T.length cap) ∧ w'.cell? ⟨K, 0, none⟩ = some (.int .i64 kd) ∧ w'.cell? ⟨K, 1, none⟩ = some (.int .u8 le) ∧ w'.cell? ⟨K, 2, none⟩ = some (.int .i64 l) ∧ w'.cell? ⟨K, 3, none⟩ = some (.int .i64 r) ∧ w'.cell? ⟨K, 4, none⟩ = some (.int .i64 tm))
           (exact HKEY.out _ (by first | exact Fr.refl _ _ | exact Fr0.fr (Fr0.refl _).drew | exact Fr0.fr ((Fr0.refl _).drew.trans (by assumption)) | exact fr_set3 (Fr0.fr ((Fr0.refl _).drew.trans (by assumption))) _ _ _ _ _ _ | exact fr_set1 (fr_set1 (Fr0.fr ((Fr0.refl _).drew.trans (by assumption))) _ _) _ _ | exact fr_set1 (Fr0.fr ((Fr0.refl _).drew.trans (by assumption))) _ _))
           ((first | (go_at_call 132; (with_reducible refine Calls.mono (CC.out _ (by first | exact Fr0.refl _ | exact (Fr0.refl _).drew)) ?_); rintro e w5 ⟨rfl, hf5⟩; have FF : Fr0 wr w5 := (HFW3.out.trans (Fr0.refl _).drew).trans hf5; obtain ⟨z0, z1, z2⟩ := HXX.out; have lrb := lt_of_block HCUR.out; have z0' := (FF.cell rb (xn * 3) lrb).trans z0; have z1' := (FF.cell rb (xn * 3 + 1) lrb).trans z1; have z2' := (FF.cell rb (xn * 3 + 2) lrb).trans z2; have zf := fun o => frozen_of_block (FF.kept HCUR.out) o; have lrb5 := lt_of_block (FF.kept HCUR.out); clear z0 z1 z2 lrb)))
          all_goals
           have htp5 := FF.kept HTP.out
           have HPOP := Lib.hid (RwR.pop HR.out FF hB0.out hkX.out HTP.out)
           clear c0 c1 cf ltp t1 l0 l1 l2 r0 r1 r2 e0 e1 e2 e3 e4 le8
           obtain ⟨c0, c1, cf, ltp⟩ := cells2 htp5
           clear FF htp5 hf5 HFW3 CC HKEY HRD3 HB83
           go_wp2_with fail
           go_roundg (unk (T.set xn (krow L xn)) * (n + 2) + n)
           case measure =>
            have h1 := HUN.out
            have h2 : unk T * (n + 2) = unk (T.set xn (krow L xn)) * (n + 2) + (n + 2) := by rw [← h1, Nat.add_mul, Nat.one_mul]
            omega
           case rel =>
            refine ⟨T.set xn (krow L xn), td', ?_, Nat.add_le_add_left (stk_top HPOP.out.stk) _⟩
            have hp := HPOP.out
            rw [HK3.out, HK4.out] at hp
            exact hp
end Go.Proofs.YtgldjpldldknoaaGreatDoor

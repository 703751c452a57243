/- The walk of ref40.Of: the patch of the first script. -/
import Derived.Test.YtodmpcnpedpheaaGreatDoorRPa2
import Derived.Test.YtodmpcnpedpheaaGreatDoorRL37b
import Derived.BigQuiet
import Derived.Deep.QuietTactic
import Derived.Test.YtodmpcnpedpheaaGreatDoorRDq5
import Derived.Test.YtodmpcnpedpheaaGreatDoorRR37c
set_option linter.unusedSimpArgs false
set_option linter.unusedVariables false
namespace Go.Proofs.YtodmpcnpedpheaaGreatDoor
open Go.RowKit

theorem TbA.kept0 {w W W' : World} {bo : Nat} {E : Nat → Nat → Nat} {n m i : Nat} (h : TbA w W bo E n m i) (hf : Fr0 W W') : TbA w W' bo E n m i := by
  obtain ⟨cs, h1, h2, h3⟩ := h.ex
  refine ⟨h.fr.trans hf, h.hbo, cs, hf.kept h1, h2, fun k h4 h5 => ?_⟩
  obtain ⟨bk, h6, h7, h8⟩ := h3 k h4 h5
  exact ⟨bk, h6, h7, h8.kept hf id⟩

theorem TbA.at {w W : World} {bo : Nat} {E : Nat → Nat → Nat} {n m : Nat} (h : TbA w W bo E n m 0) {i j : Nat} (hi : i ≤ n) (hj : j ≤ m) :
    ∃ bk, W.cell? ⟨bo, i, none⟩ = some (.slice (some ⟨bk, 0, none⟩) (m + 1) (m + 1)) ∧ W.cell? ⟨bk, j, none⟩ = some (.int .i64 (E i j : Nat)) ∧ bk < W.heap.size ∧ bo < W.heap.size := by
  obtain ⟨cs, h1, h2, h3⟩ := h.ex
  obtain ⟨bk, h6, h7, h8⟩ := h3 i (Nat.zero_le _) hi
  exact ⟨bk, by rw [cell_of_block h1]; exact h7, h8.cell (Nat.zero_le _) (by omega), h8.lt, lt_of_block h1⟩

/-- The state of Of's loop. -/
structure OfS (w wr : World) (bo : Nat) (A B : List Int) (n m : Nat) (F : List (Int × Int)) (v : Value) (out : List (Int × Int)) (i j f : Nat) : Prop where
  own : OwnG clv 109 2 w wr v out
  tab : TbA w wr bo (fun i j => edp A B i j) n m 0
  eq : out ++ celF A B f i j = F
  hi : i ≤ n
  hj : j ≤ m
  hf : (n - i) + (m - j) ≤ f
  bd : out.length + f ≤ n + m

theorem OfS.push {w wr wx w' : World} {bo : Nat} {A B : List Int} {n m : Nat} {F : List (Int × Int)} {v v' : Value} {out : List (Int × Int)} {i j f i' j' : Nat} {c : Int × Int} (h : OfS w wr bo A B n m F v out i j (f + 1)) (hc : celF A B (f + 1) i j = c :: celF A B f i' j') (h1 : i' ≤ n) (h2 : j' ≤ m) (h3 : (n - i') + (m - j') ≤ f)
    (hx : Fr0 wr wx) (hO : w'.ownsRow w.heap.size 109 2 v' (out ++ [c]).length ((out ++ [c]).flatMap clv)) (hg : wx.grownBy w' v.ownBlock) : OfS w w' bo A B n m F v' (out ++ [c]) i' j' f := by
  have h5 := h.own.grown hx hO hg
  have f5 : Fr (fun k => v.ownBlock = some k) wr w' := Fr.grown (S := fun k => v.ownBlock = some k) (Fr0.fr hx) hg (fun k hk _ => hk)
  have hty : ∀ k, v.ownBlock = some k → ∃ cur, wr.heap[k]? = some (Obj.cells cur 109 (0, 0)) := fun k hk => owns_block h.own.row hk
  obtain ⟨cs, g1, g2, g3⟩ := h.tab.ex
  refine ⟨h5, ⟨h5.fr, h.tab.hbo, cs, f5.kept g1 (fun e => ?_), g2, fun k h6 h7 => ?_⟩, ?_, h1, h2, h3, ?_⟩
  · obtain ⟨cur, hcur⟩ := hty _ e
    exact ne_of_types hcur g1 (by decide) rfl
  · obtain ⟨bk, h8, h9, h10⟩ := g3 k h6 h7
    refine ⟨bk, h8, h9, h10.kept f5 (fun e => ?_)⟩
    obtain ⟨cur, hcur⟩ := hty _ e
    obtain ⟨cs2, h11, _⟩ := h10
    exact ne_of_types hcur h11 (by decide) rfl
  · rw [← h.eq, hc, List.append_assoc]; rfl
  · have := h.bd; rw [List.length_append]; simp; omega

theorem OfS.skip {w wr w' : World} {bo : Nat} {A B : List Int} {n m : Nat} {F : List (Int × Int)} {v : Value} {out : List (Int × Int)} {i j f i' j' : Nat} (h : OfS w wr bo A B n m F v out i j (f + 1)) (hc : celF A B (f + 1) i j = celF A B f i' j') (h1 : i' ≤ n) (h2 : j' ≤ m) (h3 : (n - i') + (m - j') ≤ f) (hx : Fr0 wr w') : OfS w w' bo A B n m F v out i' j' f :=
  ⟨h.own.kept0 hx, h.tab.kept0 hx, by rw [← hc]; exact h.eq, h1, h2, h3, by have := h.bd; omega⟩

theorem OfS.next0 {w wr w' : World} {bo : Nat} {A B : List Int} {n m : Nat} {F : List (Int × Int)} {v : Value} {out : List (Int × Int)} {i j f : Nat} (h : OfS w wr bo A B n m F v out i j f) (hx : Fr0 wr w') : OfS w w' bo A B n m F v out i j f :=
  ⟨h.own.kept0 hx, h.tab.kept0 hx, h.eq, h.hi, h.hj, h.hf, h.bd⟩

theorem celF_rng {A B : List Int} : ∀ (f i j : Nat), ∀ c ∈ celF A B f i j, c.2 ≤ (A.length : Int) := by
  intro f
  induction f with
  | zero => intro i j c hc; simp [celF] at hc
  | succ f ih =>
    intro i j c hc
    rw [celF] at hc
    split at hc
    · rename_i h
      rcases List.mem_cons.1 hc with e | e
      · rw [e]; show (i : Int) ≤ _; omega
      · exact ih _ _ c e
    · split at hc
      · exact ih _ _ c hc
      · split at hc
        · rcases List.mem_cons.1 hc with e | e
          · rw [e]; show (-1 : Int) ≤ _; omega
          · exact ih _ _ c e
        · simp at hc

set_option maxRecDepth 100000 in
set_option maxHeartbeats 8000000 in
theorem rf_Of (w : World) (a b : ByteArray) (n m : Nat) (hn : a.size = n) (hm : b.size = m) (hn3 : n ≤ 400) (hm3 : m ≤ 400) :
    Calls Tryz.prog 22 #[.string a, .string b] w fun e w' => ∃ v, e = .returned v ∧ OwnG PS.vals 106 3 w w' v ((btw n 0 [] (celF (sbs a) (sbs b) (n + m) 0 0)).map PC.ps) := by
  have CT := rf_TableE w a b (by omega) (by omega)
  rw [hn, hm] at CT
  have HCT := Lib.hid CT
  have la : (sbs a).length = n := by rw [sbs_len]; exact hn
  have lb : (sbs b).length = m := by rw [sbs_len]; exact hm
  have HLA := Lib.hid la
  have HLB := Lib.hid lb
  obtain ⟨F, hF⟩ : ∃ F, celF (sbs a) (sbs b) (n + m) 0 0 = F := ⟨_, rfl⟩
  rw [hF]
  have HF := Lib.hid hF
  have HRG : Hid (∀ c ∈ F, c.2 ≤ 1152921504606846976) := fun c hc => by
    have := celF_rng (A := sbs a) (B := sbs b) _ _ _ c (by rw [hF]; exact hc)
    omega
  have HN := Lib.hid hn
  have HM := Lib.hid hm
  obtain ⟨n1, hn1⟩ : ∃ n1, n + 1 = n1 := ⟨_, rfl⟩
  obtain ⟨m1, hm1⟩ : ∃ m1, m + 1 = m1 := ⟨_, rfl⟩
  have HN1 := Lib.hid hn1
  have HM1 := Lib.hid hm1
  clear CT la lb hF hn1 hm1
  go_enter Tryz.func22, Tryz.ntmps22
  go_wp2_with fail
  refine HCT.out.mono ?_
  rintro e w1 ⟨bo, rfl, hA⟩
  rw [HN1.out]
  have H0 : Hid (OfS w w1 bo (sbs a) (sbs b) n m F (.slice none 0 0) [] 0 0 (n + m)) := ⟨OwnG.nil _ _ _ hA.fr, hA, HF.out, by omega, by omega, by omega, by simp⟩
  clear hA HCT
  go_wp2_with fail
  go_loopg [6, 7, 8] (n + m) (fun gk v6 v7 v8 wr => ∃ (i j : Nat) (out : List (Int × Int)), v7 = .int .i64 i ∧ v8 = .int .i64 j ∧ OfS w wr bo (sbs a) (sbs b) n m F v6 out i j gk)
  case atStart => exact ⟨0, 0, [], rfl, rfl, H0.out⟩
  case round =>
    clear H0
    obtain ⟨i, j, out, rfl, rfl, hs⟩ := hrel
    obtain ⟨va, vc, rfl⟩ := hs.own.form
    have HS := Lib.hid hs
    have hi := hs.hi
    have hj := hs.hj
    have hbd := hs.bd
    have hff := hs.hf
    clear hs
    by_cases hend : i = n ∧ j = m
    · obtain ⟨rfl, rfl⟩ := hend
      have z1 : decide ((i : Int) < (i : Int)) = false := decide_eq_false (by omega)
      have z2 : decide ((j : Int) < (j : Int)) = false := decide_eq_false (by omega)
      have e1 := HS.out.eq
      rw [celF_end (by rw [HLA.out]; exact Nat.le_refl _) (by rw [HLB.out]; exact Nat.le_refl _), List.append_nil] at e1
      have E1 := Lib.hid e1
      have HOW := Lib.hid HS.out.own
      obtain ⟨xa, xcap, hxv, hxr⟩ := rg_of_own (vals := clv) (size := 2) (T := 109) (B := 0) (fun _ _ => rfl) HS.out.own.row (by decide) (by decide)
      obtain ⟨rfl, rfl⟩ : va = xa ∧ vc = xcap := by simpa using hxv
      have HXR := Lib.hid hxr
      have CB := Lib.hid (ref37_Between (cap := vc) hxr (by omega) (i : Int) (by omega) (by omega) (by rw [e1]; exact HRG.out) (RES := btw (i : Int) 0 [] F) (by rw [e1]))
      clear e1 hxr hxv HS HRG
      go_wp2_with fail
      (with_reducible refine Calls.mono CB.out ?_)
      rintro e w5 ⟨v5, rfl, hO5⟩
      go_wp2_with fail
      go_ret
      exact ⟨v5, rfl, hO5.base HOW.out.fr⟩
    · cases gk with
      | zero => omega
      | succ f =>
        obtain ⟨cb, hcb⟩ : ∃ cb : Bool, decide (i < n ∧ j < m ∧ (sbs a).getD i 0 = (sbs b).getD j 0) = cb := ⟨_, rfl⟩
        have HCB := Lib.hid hcb
        clear hcb
        obtain ⟨i1, hi1⟩ : ∃ i1, i + 1 = i1 := ⟨_, rfl⟩
        obtain ⟨j1, hj1⟩ : ∃ j1, j + 1 = j1 := ⟨_, rfl⟩
        have HI1 := Lib.hid hi1
        have HJ1 := Lib.hid hj1
        have t1 : IntKind.i64.wrap ((i : Int) + 1) = (i1 : Int) := by rw [show (i : Int) + 1 = (i1 : Int) by omega]; exact wrapI (by omega) (by omega)
        have t2 : IntKind.i64.wrap ((j : Int) + 1) = (j1 : Int) := by rw [show (j : Int) + 1 = (j1 : Int) by omega]; exact wrapI (by omega) (by omega)
        have i0 : (0 : Int) ≤ (i : Int) := by omega
        have j0 : (0 : Int) ≤ (j : Int) := by omega
        have i2 : (i : Int) < (n1 : Int) := by have := HN1.out; omega
        have j2 : (j : Int) < (m1 : Int) := by have := HM1.out; omega
        have i3 : i < n1 := by omega
        have j3 : j < m1 := by omega
        have zor : Hid (i < n ∨ (¬ i < n ∧ j < m)) := by
          by_cases c : i < n
          · exact .inl c
          · exact .inr ⟨c, by omega⟩
        have HEN := Lib.hid hend
        clear hi1 hj1 hend
        go_upto_region 4 with fail
        go_cut [21] (fun u wx => u = .bool true ∧ wr = wx)
        case first =>
          rcases zor.out with c | ⟨c, d⟩
          · have z1 : decide ((i : Int) < (n : Int)) = true := decide_eq_true (by omega)
            go_wp2_with fail
            go_meet
            exact ⟨rfl, rfl⟩
          · have z1 : decide ((i : Int) < (n : Int)) = false := decide_eq_false (by omega)
            have z2 : decide ((j : Int) < (m : Int)) = true := decide_eq_true (by omega)
            go_wp2_with fail
            go_meet
            exact ⟨rfl, rfl⟩
        case rest =>
        obtain ⟨rfl, rfl⟩ := hcut
        go_upto_region 7 with fail
        go_cut [31] (fun u wx => u = .bool cb ∧ Fr0 wr wx)
        case first =>
          by_cases hin : i < n
          · by_cases hjm : j < m
            · have z1 : decide ((i : Int) < (n : Int)) = true := decide_eq_true (by omega)
              have z2 : decide ((j : Int) < (m : Int)) = true := decide_eq_true (by omega)
              have hia : i < a.size := by omega
              have hjb : j < b.size := by omega
              have i4 : (i : Int) < (n : Int) := by omega
              have j4 : (j : Int) < (m : Int) := by omega
              have g1 := sbs_at40 a i hia
              have g2 := sbs_at40 b j hjb
              by_cases hab : (sbs a).getD i 0 = (sbs b).getD j 0
              · have hcb2 : cb = true := by rw [← HCB.out]; exact decide_eq_true ⟨hin, hjm, hab⟩
                subst hcb2
                have z3 : ((a[i].toNat : Int) == (b[j].toNat : Int)) = true := by rw [← g1, ← g2, hab]; simp
                obtain ⟨bi, x1, x2, lbi, lbo⟩ := HS.out.tab.at (i := i) (j := j) (by omega) (by omega)
                obtain ⟨bk, y1, y2, lbk, _⟩ := HS.out.tab.at (i := i1) (j := j1) (by have := HI1.out; omega) (by have := HJ1.out; omega)
                have hem := edp_match (sbs a) (sbs b) (x := i) (y := j) (by rw [HLA.out]; exact hin) (by rw [HLB.out]; exact hjm) hab
                rw [HI1.out, HJ1.out] at hem
                rw [HM1.out] at x1 y1
                rw [← hem] at y2
                have i5 : (i1 : Int) < (n1 : Int) := by have := HN1.out; have := HI1.out; omega
                have j5 : (j1 : Int) < (m1 : Int) := by have := HM1.out; have := HJ1.out; omega
                have i6 : (0 : Int) ≤ (i1 : Int) := by omega
                have j6 : (0 : Int) ≤ (j1 : Int) := by omega
                have i7 : i1 < n1 := by omega
                have j7 : j1 < m1 := by omega
                clear g1 g2 hab hem HS HCB HRG
                generalize edp (sbs a) (sbs b) i j = P at *
                go_quiet (fail)
                go_wp2_with fail
                go_meet
                exact ⟨rfl, (Fr0.refl wr).drewN _⟩
              · have hcb2 : cb = false := by rw [← HCB.out]; exact decide_eq_false (fun h => hab h.2.2)
                subst hcb2
                have z3 : ((a[i].toNat : Int) == (b[j].toNat : Int)) = false := by
                  rw [← g1, ← g2]
                  exact beq_eq_false_iff_ne.2 hab
                clear g1 g2 hab HS HCB HRG
                go_quiet (fail)
                go_wp2_with fail
                go_meet
                exact ⟨rfl, (Fr0.refl wr).drewN _⟩
            · have z1 : decide ((i : Int) < (n : Int)) = true := decide_eq_true (by omega)
              have z2 : decide ((j : Int) < (m : Int)) = false := decide_eq_false (by omega)
              have hcb2 : cb = false := by rw [← HCB.out]; exact decide_eq_false (fun h => hjm h.2.1)
              subst hcb2
              clear HS HCB HRG
              go_quiet (fail)
              go_wp2_with fail
              go_meet
              exact ⟨rfl, (Fr0.refl wr).drewN _⟩
          · have z1 : decide ((i : Int) < (n : Int)) = false := decide_eq_false (by omega)
            have hcb2 : cb = false := by rw [← HCB.out]; exact decide_eq_false (fun h => hin h.1)
            subst hcb2
            clear HS HCB HRG
            go_quiet (fail)
            go_wp2_with fail
            go_meet
            exact ⟨rfl, (Fr0.refl wr).drewN _⟩
        case rest =>
        obtain ⟨rfl, hf2⟩ := hcut
        rename World => W2
        have HS2 := Lib.hid (HS.out.next0 hf2)
        clear hf2 HS
        have hxl : out.length ≤ 1000000 := by omega
        cases cb with
        | true =>
          obtain ⟨hin, hjm, hab⟩ := of_decide_eq_true HCB.out
          have hia : i < a.size := by omega
          have i4 : (i : Int) < (n : Int) := by omega
          have g1 := sbs_at40 a i hia
          have hk := celF_keep (A := sbs a) (B := sbs b) (f := f) (by rw [HLA.out]; exact hin) (by rw [HLB.out]; exact hjm) hab
          rw [g1, HI1.out, HJ1.out] at hk
          have HK := Lib.hid hk
          have hbs : w.heap.size ≤ W2.heap.size := Fr.size HS2.out.own.fr
          have hrow := Lib.hid HS2.out.own.row
          clear g1 hab hk HCB HRG
          go_wp2_with (at_builtin; refine wpList_pushG (vals := clv) rt_cell rfl _ _ rfl w.heap.size _ out rfl hrow.out hbs 109 ((a[i].toNat : Int), (i : Int)) #[.int .u8 (a[i].toNat : Int), .int .i64 i] rfl rfl (by simp [clv, Value.oneCell']) 1 _ rfl rfl (by omega) hxl ?_; intro v' w4 hO4 hg4 hat4)
          have hX := HS2.out.push HK.out (by have := HI1.out; omega) (by have := HJ1.out; omega) (by have := HI1.out; have := HJ1.out; omega) ((Fr0.refl W2).alloc _) hO4 hg4
          go_roundg f
          case measure => omega
          case rel => exact ⟨i1, j1, _, rfl, rfl, hX⟩
        | false =>
          have hno : ¬ (i < n ∧ j < m ∧ (sbs a).getD i 0 = (sbs b).getD j 0) := of_decide_eq_false HCB.out
          have HNO := Lib.hid hno
          clear hno HCB
          obtain ⟨db, hdb⟩ : ∃ db : Bool, decide (i < n ∧ edp (sbs a) (sbs b) i j = 1 + edp (sbs a) (sbs b) i1 j) = db := ⟨_, rfl⟩
          have HDB := Lib.hid hdb
          clear hdb
          go_upto_region 11 with fail
          go_cut [82] (fun u wx => u = .bool db ∧ Fr0 W2 wx)
          case first =>
            by_cases hin : i < n
            · have z1 : decide ((i : Int) < (n : Int)) = true := decide_eq_true (by omega)
              obtain ⟨bi, x1, x2, lbi, lbo⟩ := HS2.out.tab.at (i := i) (j := j) (by omega) (by omega)
              obtain ⟨bk, y1, y2, lbk, _⟩ := HS2.out.tab.at (i := i1) (j := j) (by have := HI1.out; omega) (by omega)
              rw [HM1.out] at x1 y1
              have i5 : (i1 : Int) < (n1 : Int) := by have := HN1.out; have := HI1.out; omega
              have i6 : (0 : Int) ≤ (i1 : Int) := by omega
              have i7 : i1 < n1 := by omega
              have hgp := (ed_gap ((sbs a).drop i1) ((sbs b).drop j)).2.2
              have hpb : edp (sbs a) (sbs b) i1 j ≤ 1000 := by
                unfold edp
                simp only [List.length_drop] at hgp
                have := HLA.out
                have := HLB.out
                omega
              have hdb2 : db = decide (edp (sbs a) (sbs b) i j = 1 + edp (sbs a) (sbs b) i1 j) := by rw [← HDB.out]; congr 1; simp [hin]
              clear HS2 HRG HNO HDB hgp
              generalize edp (sbs a) (sbs b) i j = P at *
              generalize edp (sbs a) (sbs b) i1 j = Q at *
              have t3 : IntKind.i64.wrap (1 + (Q : Int)) = ((1 + Q : Nat) : Int) := by rw [show (1 : Int) + (Q : Int) = ((1 + Q : Nat) : Int) by omega]; exact wrapI (by omega) (by omega)
              by_cases hpq : P = 1 + Q
              · have z3 : ((P : Int) == 1 + (Q : Int)) = true := beq_iff_eq.2 (by omega)
                have : db = true := by rw [hdb2]; exact decide_eq_true hpq
                subst this
                clear hpq hdb2
                go_quiet (fail)
                go_wp2_with fail
                go_meet
                exact ⟨rfl, (Fr0.refl W2).drewN _⟩
              · have z3 : ((P : Int) == 1 + (Q : Int)) = false := beq_eq_false_iff_ne.2 (by omega)
                have : db = false := by rw [hdb2]; exact decide_eq_false hpq
                subst this
                clear hpq hdb2
                go_quiet (fail)
                go_wp2_with fail
                go_meet
                exact ⟨rfl, (Fr0.refl W2).drewN _⟩
            · have z1 : decide ((i : Int) < (n : Int)) = false := decide_eq_false (by omega)
              have : db = false := by rw [← HDB.out]; exact decide_eq_false (fun h => hin h.1)
              subst this
              clear HS2 HRG HNO HDB
              go_quiet (fail)
              go_wp2_with fail
              go_meet
              exact ⟨rfl, (Fr0.refl W2).drewN _⟩
          case rest =>
          obtain ⟨rfl, hf3⟩ := hcut
          rename World => W3
          have HS3 := Lib.hid (HS2.out.next0 hf3)
          clear hf3 HS2
          have HNOL : Hid (¬ (i < (sbs a).length ∧ j < (sbs b).length ∧ (sbs a).getD i 0 = (sbs b).getD j 0)) := by
            show ¬ _
            rw [HLA.out, HLB.out]; exact HNO.out
          cases db with
          | true =>
            obtain ⟨hin, hed⟩ := of_decide_eq_true HDB.out
            have hk := celF_del (f := f) HNOL.out (by rw [HLA.out]; exact hin) (by rw [HI1.out]; exact hed)
            rw [HI1.out] at hk
            have hX := Lib.hid (HS3.out.skip hk (by have := HI1.out; omega) (by omega) (by have := HI1.out; omega) (Fr0.refl W3))
            clear hed hk HDB HRG HS3
            go_wp2_with fail
            go_roundg f
            case measure => omega
            case rel => exact ⟨i1, j, _, rfl, rfl, hX.out⟩
          | false =>
            have hne : ¬ (i < n ∧ edp (sbs a) (sbs b) i j = 1 + edp (sbs a) (sbs b) i1 j) := of_decide_eq_false HDB.out
            have hjm : j < m := by
              rcases Nat.lt_or_ge j m with h | h
              · exact h
              · exfalso
                have h1 := edp_endB (sbs a) (sbs b) (x := i) (y := j) (by rw [HLB.out]; exact h)
                have h2 := edp_endB (sbs a) (sbs b) (x := i1) (y := j) (by rw [HLB.out]; exact h)
                rw [HLA.out] at h1 h2
                have h3 := HI1.out
                have h4 : i < n := by
                  rcases zor.out with c | ⟨_, c⟩
                  · exact c
                  · omega
                exact hne ⟨h4, by omega⟩
            have hjb : j < b.size := by omega
            have j4 : (j : Int) < (m : Int) := by omega
            have g2 := sbs_at40 b j hjb
            have hk := celF_ins (f := f) HNOL.out (by rw [HI1.out, HLA.out]; exact hne) (by rw [HLB.out]; exact hjm)
            rw [g2, HJ1.out] at hk
            have HK := Lib.hid hk
            have hbs : w.heap.size ≤ W3.heap.size := Fr.size HS3.out.own.fr
            have hrow := Lib.hid HS3.out.own.row
            clear g2 hk hne HDB HRG HNO HNOL
            go_wp2_with (at_builtin; refine wpList_pushG (vals := clv) rt_cell rfl _ _ rfl w.heap.size _ out rfl hrow.out hbs 109 ((b[j].toNat : Int), (-1 : Int)) #[.int .u8 (b[j].toNat : Int), .int .i64 (-1)] rfl rfl (by simp [clv, Value.oneCell']) 1 _ rfl rfl (by omega) hxl ?_; intro v' w4 hO4 hg4 hat4)
            have hX := HS3.out.push HK.out (by omega) (by have := HJ1.out; omega) (by have := HJ1.out; omega) ((Fr0.refl W3).alloc _) hO4 hg4
            go_roundg f
            case measure => omega
            case rel => exact ⟨i, j1, _, rfl, rfl, hX⟩

end Go.Proofs.YtodmpcnpedpheaaGreatDoor

/- The walk of DiffPatches. -/
set_option linter.unusedSimpArgs false
set_option linter.unusedVariables false
namespace Go.Proofs.YtodmpcnpedpheaaGreatDoor
open Go.RowKit

/-- A range of the script, as a plain change. -/
def Qd.pc (B : List Int) (q : Qd) : PC := ⟨q.fx, (q.x : Int) - q.fx, rngT B q.fy (q.y - q.fy)⟩

theorem qdL_pc (B : List Int) (fx x fy y : Nat) : (qdL fx x fy y).map (Qd.pc B) = chgS B fx x fy y := by
  unfold qdL chgS
  split <;> rfl

theorem scrQ_pc (A B : List Int) : ∀ (e x y fx fy : Nat), (scrQ A B e x y fx fy).map (Qd.pc B) = scrF A B e x y fx fy := by
  intro e
  induction e with
  | zero => intro x y fx fy; exact qdL_pc B fx x fy y
  | succ e ih =>
    intro x y fx fy
    have hfl : (if 0 < cpl (A.drop x) (B.drop y) then qdL fx x fy y else []).map (Qd.pc B) = if 0 < cpl (A.drop x) (B.drop y) then chgS B fx x fy y else [] := by
      split
      · exact qdL_pc B fx x fy y
      · rfl
    rw [scrQ, scrF]
    split
    · rw [List.map_append, hfl, ih]
    · split
      · rw [List.map_append, hfl, ih]
      · rw [List.map_append, hfl, ih]

def chO (c : Int × Int × Int) : Chg := ⟨c.1, c.2.1, c.2.2⟩
theorem chO_flat (cs : List (Int × Int × Int)) : (cs.map chO).flatMap Chg.vals = cs.flatMap chz := by
  induction cs with
  | nil => rfl
  | cons c r ih => rw [List.map_cons, List.flatMap_cons, List.flatMap_cons, ih]; rfl

theorem ChR.pchg {B : List Int} {L : List Ent} {qs : List Qd} {cs : List (Int × Int × Int)} (h : ChR B L qs cs) : PChg L (cs.map chO) (qs.map (Qd.pc B)) := by
  induction h with
  | nil => exact trivial
  | snoc h1 h2 h3 ih =>
    obtain ⟨d, h4⟩ := h3
    rw [List.map_append, List.map_append]
    exact ih.snoc rfl rfl h4

theorem qd_len (B : List Int) (q : Qd) : (q.pc B).text.length ≤ B.length := by
  show (rngT B q.fy (q.y - q.fy)).length ≤ _
  unfold rngT
  rw [List.length_take, List.length_drop]
  omega

theorem ChR.len {B : List Int} {L : List Ent} {qs : List Qd} {cs : List (Int × Int × Int)} (h : ChR B L qs cs) : cs.length = qs.length := by
  induction h with
  | nil => rfl
  | snoc h1 h2 h3 ih => rw [List.length_append, List.length_append, ih]; rfl

theorem scrQ_len (A B : List Int) : ∀ (e x y fx fy : Nat), (scrQ A B e x y fx fy).length ≤ e + 1 := by
  intro e
  induction e with
  | zero => intro x y fx fy; exact qdL_len fx x fy y
  | succ e ih =>
    intro x y fx fy
    have hfl : (if 0 < cpl (A.drop x) (B.drop y) then qdL fx x fy y else []).length ≤ 1 := by
      split
      · exact qdL_len fx x fy y
      · simp
    rw [scrQ]
    split
    · rw [List.length_append]; have := ih (x + cpl (A.drop x) (B.drop y) + 1) (y + cpl (A.drop x) (B.drop y)) (if 0 < cpl (A.drop x) (B.drop y) then x + cpl (A.drop x) (B.drop y) else fx) (if 0 < cpl (A.drop x) (B.drop y) then y + cpl (A.drop x) (B.drop y) else fy); omega
    · split
      · rw [List.length_append]; have := ih (x + cpl (A.drop x) (B.drop y)) (y + cpl (A.drop x) (B.drop y) + 1) (if 0 < cpl (A.drop x) (B.drop y) then x + cpl (A.drop x) (B.drop y) else fx) (if 0 < cpl (A.drop x) (B.drop y) then y + cpl (A.drop x) (B.drop y) else fy); omega
      · rw [List.length_append]; have := ih (x + cpl (A.drop x) (B.drop y)) (y + cpl (A.drop x) (B.drop y)) (if 0 < cpl (A.drop x) (B.drop y) then x + cpl (A.drop x) (B.drop y) else fx) (if 0 < cpl (A.drop x) (B.drop y) then y + cpl (A.drop x) (B.drop y) else fy); omega

/-- Of where the distance is too great. -/
theorem df_Of_large {B0 : Nat} {w : World} {pp tp p mb : Nat} {most : Int} {L : List Ent} {T : List KRow} {a b : Int} {A B : List Int} (hp : Pq B0 w pp tp p mb most L T) (ha : SigOk L a) (hb : SigOk L b) (eA : txt L a = A) (eB : txt L b = B) (hA : A.length ≤ 300) (hB : B.length ≤ 300) (hD : ¬ edp A B 0 0 ≤ 256) :
    Calls Tryz.prog 13 #[.pointer (some ⟨pp, 0, none⟩), .int .i64 a, .int .i64 b] w (Ce3 B0 w pp tp p mb most L (.slice none 0 0) 9) := by
  refine df_Of_no ?_
  have C := df_compare hp ha hb eA eB hA hB
  unfold CqPost at C
  simp only [if_neg hD] at C
  exact C

set_option maxRecDepth 100000 in
set_option maxHeartbeats 4000000 in
theorem law_DiffPatches {w : World} (hdeb : Deb w.heap.size w) (a b : ByteArray) :
    Calls Tryz.prog 4 #[.string a, .string b] w fun e w' => e = .returned (.bool true) ∧ Fr0 w w' := by
  have CP := Lib.hid (law_Parser hdeb)
  clear hdeb
  go_enter Tryz.func4, Tryz.ntmps4
  go_wp2_with fail
  refine CP.out.mono ?_
  rintro e w1 ⟨pp, tp, p, mb, L, T, rfl, hp, hf, hl⟩
  have HP := Lib.hid hp
  have HF := Lib.hid hf
  clear hp hf CP
  go_wp2_with fail
  refine (law_cut a 250 (by omega) w1).mono ?_
  rintro e w2 ⟨ta, rfl, ea, rfl⟩
  go_wp2_with fail
  refine (law_cut b 250 (by omega) w1).mono ?_
  rintro e w2 ⟨tb, rfl, eb, rfl⟩
  have hla : ta.size ≤ 250 := by rw [← sbs_len, ea, List.length_take]; omega
  have hlb : tb.size ≤ 250 := by rw [← sbs_len, eb, List.length_take]; omega
  clear ea eb
  have C1 := Lib.hid (law_two HP.out ta tb (by omega) (by omega) (by omega) (by omega))
  have HLP := Lib.hid hl
  clear HP hl
  go_wp2_with fail
  refine C1.out.mono ?_
  rintro e w2 ⟨L2, T2, x, y, rfl, hp2, hk2, hg2, sx, sy, ex, ey⟩
  have HP2 := Lib.hid hp2
  have HF2 := Lib.hid (Kx.all0 HF.out hk2)
  have lA := sbs_len ta
  have lB := sbs_len tb
  have hL2 : L2.length ≤ 1100 := by have := hg2.gr.len; have := HLP.out; omega
  have HL2 := Lib.hid hL2
  clear hk2 C1 hg2 hp2 HF hL2
  have CRD : Hid (∀ W, Calls Tryz.prog 18 #[.string ta, .string tb] W fun e w' => e = .returned (.int .i64 (ed (sbs ta) (sbs tb) : Nat)) ∧ Fr0 W w') := fun W => rf_Distance W ta tb (by omega) (by omega)
  by_cases hD : edp (sbs ta) (sbs tb) 0 0 ≤ 256
  · have CO := Lib.hid (df_Of HP2.out sx sy ex ey (by omega) (by omega) hD (by have := HL2.out; omega) (by omega))
    obtain ⟨na, hna⟩ : ∃ na, ta.size = na := ⟨_, rfl⟩
    obtain ⟨nb, hnb⟩ : ∃ nb, tb.size = nb := ⟨_, rfl⟩
    have CRO := Lib.hid (fun W => rf_Of W ta tb na nb hna hnb (by omega) (by omega))
    have hsc := scr_of (A := sbs ta) (B := sbs tb) (by omega) hD
    rw [lA, lB, hna, hnb] at hsc
    rw [← hsc] at CRO
    have hz : decide ((256 : Int) < (ed (sbs ta) (sbs tb) : Nat)) = false := decide_eq_false (by rw [edp_all] at hD; omega)
    generalize ed (sbs ta) (sbs tb) = d at *
    have HLB := Lib.hid (show (sbs tb).length ≤ 250 by omega)
    have HD := Lib.hid hD
    clear hsc hD sx sy ex ey lA lB hna hnb
    go_wp2_with fail
    refine CO.out.mono ?_
    rintro e w3 ⟨L3, cs, pv, rfl, ⟨T3, hp3⟩, hk3, hg3, hr3, hc3⟩
    have HP3 := Lib.hid hp3
    have HF3 := Lib.hid (Kx.all0 HF2.out hk3)
    have hr4 : w3.ownsRow w2.heap.size 72 3 pv (cs.map chO).length ((cs.map chO).flatMap Chg.vals) := by
      rw [List.length_map, chO_flat]; exact hr3
    obtain ⟨pa, pcap, hpv, hrg⟩ := rg_of_own (vals := Chg.vals) (size := 3) (T := 72) (B := w.heap.size) (fun _ _ => rfl) hr4 (by decide) (by decide)
    rw [List.length_map] at hpv
    subst hpv
    have hcl := hc3.len
    have hql := scrQ_len (sbs ta) (sbs tb) (edp (sbs ta) (sbs tb) 0 0) 0 0 0 0
    have hd := HD.out
    have CF := Lib.hid (fun W (hW : Fr0 w3 W) => law37_From (cap := pcap) (hp3.kept0 hW).st hp3.sok hp3.dok hp3.big (hrg.kept0 hW) hc3.pchg (by rw [List.length_map]; omega) (fun c hc => by obtain ⟨q, _, rfl⟩ := List.mem_map.1 hc; have := qd_len (sbs tb) q; have := HLB.out; omega))
    rw [scrQ_pc] at CF
    simp only [List.length_map] at CF
    obtain ⟨nc, hnc⟩ : ∃ nc, cs.length = nc := ⟨_, rfl⟩
    rw [hnc] at CF hcl ⊢
    have hsl : (scrF (sbs ta) (sbs tb) (edp (sbs ta) (sbs tb) 0 0) 0 0 0 0).length ≤ 1000 := by
      rw [← scrQ_pc, List.length_map]; omega
    have HSL := Lib.hid hsl
    generalize scrF (sbs ta) (sbs tb) (edp (sbs ta) (sbs tb) 0 0) 0 0 0 0 = S at *
    clear hp3 hk3 hg3 hr3 hr4 hc3 hrg hcl hql hd hnc HP2 HF2 CO HD hsl HLP HL2
    go_wp2_with fail
    refine (CRD.out _).mono ?_
    rintro e w4 ⟨rfl, f4⟩
    have CF4 := Lib.hid (CF.out _ f4)
    have HP4 := Lib.hid (HP3.out.kept0 f4)
    have HF4 := Lib.hid (HF3.out.trans f4)
    clear f4 CF HP3 HF3 CRD
    go_wp2_with fail
    refine (sig_Store HP4.out).mono ?_
    rintro e w5 ⟨rfl, rfl⟩
    go_wp2_with fail
    (with_reducible refine Calls.mono CF4.out ?_)
    rintro e w5 ⟨v5, rfl, hO5⟩
    obtain ⟨va, vc, rfl⟩ := hO5.form
    have HO5 := Lib.hid hO5
    have HF5 := Lib.hid (HF4.out.trans hO5.fr)
    clear hO5 CF4 HP4 HF4
    go_wp2_with fail
    refine (CRO.out _).mono ?_
    rintro e w6 ⟨v6, rfl, hO6⟩
    obtain ⟨vb, vd, rfl⟩ := hO6.form
    obtain ⟨x1, x2, hx, hxr⟩ := rg_of_own (vals := PS.vals) (size := 3) (T := 106) (B := 0) (fun _ _ => rfl) (hO6.fr.owns HO5.out.row) (by decide) (by decide)
    obtain ⟨y1, y2, hy, hyr⟩ := rg_of_own (vals := PS.vals) (size := 3) (T := 106) (B := 0) (fun _ _ => rfl) hO6.row (by decide) (by decide)
    obtain ⟨rfl, rfl⟩ : va = x1 ∧ vc = x2 := by simpa using hx
    obtain ⟨rfl, rfl⟩ : vb = y1 ∧ vd = y2 := by simpa using hy
    have CS := Lib.hid (ref37_Same (cap := vc) (cap' := vd) hxr hyr (by rw [List.length_map]; have := HSL.out; omega))
    rw [List.length_map] at CS
    have HF6 := Lib.hid (HF5.out.trans hO6.fr)
    clear hxr hyr hx hy hO6 HO5 HF5 CRO
    go_wp2_with fail
    (with_reducible refine Calls.mono CS.out ?_)
    rintro e w7 ⟨rfl, f7⟩
    go_wp2_with fail
    go_ret
    exact ⟨rfl, HF6.out.trans f7⟩
  · have CO := Lib.hid (df_Of_large HP2.out sx sy ex ey (by omega) (by omega) hD)
    have hz : decide ((256 : Int) < (ed (sbs ta) (sbs tb) : Nat)) = true := decide_eq_true (by rw [edp_all] at hD; omega)
    generalize ed (sbs ta) (sbs tb) = d at *
    clear hD sx sy ex ey lA lB
    go_wp2_with fail
    refine CO.out.mono ?_
    rintro e w3 ⟨rfl, ⟨T3, hp3⟩, hk3⟩
    have HF3 := Lib.hid (Kx.all0 HF2.out hk3)
    clear hp3 hk3 HP2 HF2 CO
    go_wp2_with fail
    refine (CRD.out _).mono ?_
    rintro e w4 ⟨rfl, f4⟩
    have HF4 := Lib.hid (HF3.out.trans f4)
    clear f4 HF3 CRD
    go_wp2_with fail
    refine (base_Is 9 _ (by omega)).mono ?_
    rintro e w5 ⟨rfl, rfl⟩
    go_wp2_with fail
    go_ret
    exact ⟨rfl, HF4.out⟩

end Go.Proofs.YtodmpcnpedpheaaGreatDoor

/- The walk of evergreenref37.Apply. -/
import Derived.Test.YtclpndigmidjkaaGreatQR37b
import Derived.Deep.LoopGhost
import Derived.Deep.DeepCutAuto
set_option linter.unusedSimpArgs false
set_option linter.unusedVariables false
namespace Go.Proofs.YtclpndigmidjkaaGreat
open Go.RowKit

theorem flat_dropG {α : Type} (vals : α → List Value) (size : Nat) : ∀ (xs : List α) (n : Nat), (∀ x ∈ xs, (vals x).length = size) → (xs.drop n).flatMap vals = (xs.flatMap vals).drop (n * size)
  | [], n, _ => by simp
  | x :: r, 0, _ => by simp
  | x :: r, n + 1, h => by
    have hx := h x (by simp)
    rw [List.drop_succ_cons, flat_dropG vals size r n (fun y hy => h y (by simp [hy])), List.flatMap_cons, show (n + 1) * size = (vals x).length + n * size by rw [hx, Nat.add_mul, Nat.one_mul]; omega, List.drop_append]
    simp
theorem flat_takeG {α : Type} (vals : α → List Value) (size : Nat) : ∀ (xs : List α) (n : Nat), (∀ x ∈ xs, (vals x).length = size) → (xs.take n).flatMap vals = (xs.flatMap vals).take (n * size)
  | [], n, _ => by simp
  | x :: r, 0, _ => by simp
  | x :: r, n + 1, h => by
    have hx := h x (by simp)
    rw [List.take_succ_cons, List.flatMap_cons, flat_takeG vals size r n (fun y hy => h y (by simp [hy])), List.flatMap_cons, show (n + 1) * size = (vals x).length + n * size by rw [hx, Nat.add_mul, Nat.one_mul]; omega, List.take_append]
    simp
    exact (List.take_of_length_le (by omega)).symm

/-- A part of a list. -/
def part {α : Type} (T : List α) (A B : Nat) : List α := (T.drop A).take (B - A)

theorem part_len {α : Type} (T : List α) {A B : Nat} (h1 : A ≤ B) (h2 : B ≤ T.length) : (part T A B).length = B - A := by unfold part; rw [List.length_take, List.length_drop]; omega

theorem add_offG (b o j : Nat) : (⟨b, o, none⟩ : Addr).add j = ⟨b, o + j, none⟩ := by
  unfold Addr.add
  split
  · next e => rw [e, Nat.add_zero]
  · rfl

theorem src_part {α : Type} {vals : α → List Value} {size base : Nat} {E : TypeId} {w : World} {g n cap : Nat} {T : List α} (hv : ∀ x ∈ T, (vals x).length = size) (h : w.ownsRow base E size (.slice (some ⟨g, 0, none⟩) n cap) n (T.flatMap vals)) (A B : Nat) (h1 : A ≤ B) (h2 : B ≤ T.length) (c m O : Nat) (hm : m = B - A) (hO : O = A * size) : SrcAt w (.slice (some ⟨g, O, none⟩) m c) m ((part T A B).flatMap vals) := by
  subst hm hO
  refine .inr ⟨⟨g, A * size, none⟩, c, rfl, ?_⟩
  intro j u hj
  rw [add_offG]
  refine owns_cell h _ _ ?_
  unfold part at hj
  rw [flat_takeG vals size _ _ (fun x hx => hv x (List.mem_of_mem_drop hx)), flat_dropG vals size _ _ hv, List.getElem?_take] at hj
  split at hj
  · rw [List.getElem?_drop] at hj; exact hj
  · cases hj

theorem src_empty {w : World} {ad : Addr} {c m : Nat} {S : List Value} (hm : m = 0) (hS : S = []) : SrcAt w (.slice (some ad) m c) 0 S := by
  subst hm hS
  exact .inr ⟨ad, c, rfl, fun j u hj => by simp at hj⟩

def embC (x : Int) : Int × Int := (x, -1)

theorem patG_ge {α : Type} (emb : Int → α) (T : List α) (f : Int) (ps : List PC) (Y F : List α) (h : Y ++ patG emb T f ps = F) : Y.length ≤ F.length := by rw [← h, List.length_append]; omega

/-- What holds at each round's head. -/
structure ARel37 (w wr : World) (T F : List (Int × Int)) (ps : List PC) (k A : Nat) (v : Value) (Y : List (Int × Int)) : Prop where
  own : OwnG clv 149 2 w wr v Y
  fin : Y ++ patG embC T A (ps.drop k) = F
  formed : ∃ last, validP T.length last (ps.drop k) = true ∧ (A : Int) ≤ last + 1 ∧ A ≤ T.length

theorem cells_app (Y : List (Int × Int)) {w : World} {ops : Array Oper} {rest : List Oper} {o : Oper} {a : Act} {Q : Exit → Act → World → Prop} (hgd : o.guard = none) (s x : Operand)
    (ho : o.op = .call { callee := .builtin .append, args := #[s, x], argTypes := #[61, 61] })
    (base : Nat) (v : Value) (hs : a.eval s = v) (hown : w.ownsRow base 149 2 v Y.length (Y.flatMap clv)) (src : Value) (m : Nat) (S : List (Int × Int)) (hx : a.eval x = src) (hm : S.length = m) (hsrc : SrcAt w src m (S.flatMap clv)) (hlen : Y.length + S.length ≤ 1000000) (hB : base ≤ w.heap.size)
    (h : ∀ v' w', w'.ownsRow base 149 2 v' (Y ++ S).length ((Y ++ S).flatMap clv) → w.grownBy w' v.ownBlock → wpList Tryz.prog ops Q rest (a.put o.dst v') w') : wpList Tryz.prog ops Q (o :: rest) a w := by
  subst hm
  refine wpList_append_rt rt_cell hgd s x ho base v Y.length _ hs hown src S.length (S.flatMap clv) hx hsrc (flat_len clv 2 S (fun _ _ => rfl)) ?_ (by unfold maxLen; omega) (by omega) hB ?_
  · intro u hu
    obtain ⟨l, _, hl⟩ := List.mem_flatMap.1 hu
    simp [clv] at hl
    rcases hl with rfl | rfl <;> rfl
  · intro v' w' h1 h2 _
    exact h v' w' (by rw [List.length_append, List.flatMap_append]; exact h1) h2

set_option maxRecDepth 100000 in
set_option maxHeartbeats 4000000 in
theorem ref37_Apply {B0 : Nat} {w : World} (tv : Value) (T : List (Int × Int)) (hT : w.ownsRow 0 149 2 tv T.length (T.flatMap clv)) (pa : Option Addr) (pcap : Nat) (ps : List PS) (hA : RG PS.vals 3 B0 w pa ps) (hv : validP T.length (-1) (ps.map PS.pc) = true) (F : List (Int × Int)) (hF : patG embC T 0 (ps.map PS.pc) = F) (hFl : F.length ≤ 900000) (hTl : T.length ≤ 900000) (hml : ps.length ≤ 1000) :
    Calls Tryz.prog 25 #[tv, .slice pa ps.length pcap] w fun e w' => ∃ v, e = .returned v ∧ OwnG clv 149 2 w w' v F := by
  obtain ⟨ta, tcap, rfl⟩ := owns_form hT
  have H0 : Hid (ARel37 w w T F (ps.map PS.pc) 0 0 (.slice none 0 0) []) := ⟨OwnG.nil _ _ _ (Fr0.refl w), by simpa using hF, ⟨-1, by simpa using hv, by omega, Nat.zero_le _⟩⟩
  have HT := Lib.hid hT
  have HA := Lib.hid hA
  clear hT hA hv hF
  go_enter Tryz.func25, Tryz.ntmps25
  go_wp2_with fail
  go_loopg [5, 6, 11] ps.length (fun gk v t i wr => ∃ (k A : Nat) (Y : List (Int × Int)), k + gk = ps.length ∧ i = .int .i64 k ∧ t = .int .i64 A ∧ (∃ a cap, v = .slice a Y.length cap) ∧ ARel37 w wr T F (ps.map PS.pc) k A v Y)
  case atStart => exact ⟨0, 0, [], by omega, rfl, rfl, ⟨none, 0, rfl⟩, H0.out⟩
  case round =>
    clear H0
    obtain ⟨k, A, Y, hk, rfl, rfl, ⟨va, vcap, rfl⟩, hP⟩ := hrel
    have hgk : gk + k = ps.length := by omega
    clear hk
    obtain ⟨last, hfm, hla, hAT⟩ := hP.formed
    have hYF : Y.length ≤ F.length := patG_ge _ _ _ _ _ _ hP.fin
    have hfr := hP.own.fr
    have HP := Lib.hid hP
    have hT' := hfr.owns HT.out
    have hbs : w.heap.size ≤ wr.heap.size := Fr.size hfr
    by_cases hlt : k < ps.length
    · have hlt2 : k < (ps.map PS.pc).length := by simpa using hlt
      obtain ⟨b, off, hab, lb, _, hc⟩ := (HA.out.kept0 hfr) k hlt
      have hfd := validP_drop hlt2 hfm
      rw [Bool.and_eq_true, List.getElem_map] at hfd
      obtain ⟨t1, t2, t3, t4, t5⟩ := fitP_true hfd.1
      have HF2 := Lib.hid hfd.2
      have hfin := hP.fin
      rw [List.drop_eq_getElem_cons hlt2, List.getElem_map] at hfin
      unfold patG at hfin
      have HC3 : Hid (∀ W, Fr0 w W → W.cell? ⟨b, off + k * 3, none⟩ = some (.int .i64 ps[k].at_) ∧ W.cell? ⟨b, off + k * 3 + 1, none⟩ = some (.int .i64 ps[k].n) ∧ W.cell? ⟨b, off + k * 3 + 2, none⟩ = some (.string ps[k].s) ∧ b < W.heap.size) := by
        intro W hf
        obtain ⟨b', off', hab', l', _, e⟩ := (HA.out.kept0 hf) k hlt
        rw [hab] at hab'
        simp only [Option.some.injEq, Addr.mk.injEq, and_true] at hab'
        obtain ⟨rfl, rfl⟩ := hab'
        exact ⟨e 0 _ rfl, e 1 _ rfl, e 2 _ rfl, l'⟩
      have d0 := hc 0 _ rfl
      rw [Nat.add_zero] at d0
      subst hab
      clear hP hfm hfd hc
      generalize ps[k] = c at *
      obtain ⟨ca, cn, cs⟩ := c
      simp only [PS.pc] at *
      obtain ⟨B, hB⟩ : ∃ B : Nat, ca = B := ⟨ca.toNat, by omega⟩
      obtain ⟨N, hN⟩ : ∃ N : Nat, cn = N := ⟨cn.toNat, by omega⟩
      subst hB hN
      have hAB : A ≤ B := by omega
      have hBT : B ≤ T.length := by omega
      have hcut : (T.drop (A : Int).toNat).take ((B : Int) - (A : Int)).toNat = part T A B := by unfold part; congr 1 <;> omega
      rw [hcut] at hfin
      have hlen : Y.length + (part T A B).length + cs.size ≤ F.length := by
        have := congrArg List.length hfin
        rw [List.length_append, List.length_append, List.length_append, List.length_map, sbs_len] at this
        omega
      obtain ⟨Y1, hY1⟩ : ∃ Y1, Y ++ part T A B = Y1 := ⟨_, rfl⟩
      have hsl : Y1.length = Y.length + (part T A B).length := by rw [← hY1, List.length_append]
      rw [← List.append_assoc, hY1] at hfin
      have HFIN := Lib.hid hfin
      have HY1 := Lib.hid hY1
      clear hY1 hfin hcut t5
      go_upto_region 6 with fail
      go_cut [5] (fun v wx => (∃ a cap, v = .slice a Y1.length cap) ∧ OwnG clv 149 2 w wx v Y1)
      case first =>
        have hfinish : ∀ v' w1, w1.ownsRow w.heap.size 149 2 v' (Y ++ part T A B).length ((Y ++ part T A B).flatMap clv) → wr.grownBy w1 (Value.slice va Y.length vcap).ownBlock → (∃ a cap, v' = .slice a Y1.length cap) ∧ OwnG clv 149 2 w w1 v' Y1 := by
          intro v' w1 h1 h2
          have := HP.out.own.grown (Fr0.refl wr) h1 h2
          rw [HY1.out] at this
          exact ⟨this.form, this⟩
        have HFI := Lib.hid hfinish
        have hYo := HP.out.own.row
        clear hfinish
        rcases hT'.2 with ⟨h1, h2⟩ | ⟨g, cap', cur, h1, _, hg, hcl, _⟩
        · simp only [Value.slice.injEq] at h1
          obtain ⟨rfl, _, rfl⟩ := h1
          obtain rfl : T = [] := List.eq_nil_of_length_eq_zero h2
          obtain rfl : A = 0 := by simpa using hAT
          obtain rfl : B = 0 := by simpa using hBT
          clear hT' HT
          go_wp2_with (at_builtin; refine cells_app Y rfl _ _ rfl w.heap.size (.slice va Y.length vcap) rfl hYo _ 0 [] rfl rfl (.inl ⟨rfl, rfl, rfl⟩) (by simp; omega) hbs ?_; intro v' w1 q1 q2)
          go_meet
          case rel => exact HFI.out v' w1 q1 q2
        · simp only [Value.slice.injEq] at h1
          obtain ⟨rfl, _, rfl⟩ := h1
          have hpl := part_len T hAB hBT
          have hsl2 : Y.length + (part T A B).length ≤ 1000000 := by omega
          by_cases hcA : tcap = A
          · have hBA : B = A := by omega
            have hS : part T A B = [] := List.eq_nil_of_length_eq_zero (by rw [hpl]; omega)
            rw [hS] at HFI hsl2
            subst hBA hcA
            clear hS hpl
            go_wp2_with (at_builtin; refine cells_app Y rfl _ _ rfl w.heap.size (.slice va Y.length vcap) rfl hYo _ 0 [] rfl rfl (src_empty rfl rfl) hsl2 hbs ?_; intro v' w1 q1 q2)
            go_meet
            case rel => exact HFI.out v' w1 q1 q2
          · have hsrc := fun c m O hm hO => src_part (vals := clv) (fun _ _ => rfl) hT' A B hAB hBT c m O hm hO
            have HSRC := Lib.hid hsrc
            have hBc : B ≤ tcap := by omega
            clear hT' HT hsrc
            go_wp2_with (at_builtin; refine cells_app Y rfl _ _ rfl w.heap.size (.slice va Y.length vcap) rfl hYo _ (B - A) (part T A B) rfl hpl (HSRC.out _ _ _ rfl (by simp)) hsl2 hbs ?_; intro v' w1 q1 q2)
            go_meet
            case rel => exact HFI.out v' w1 q1 q2
      case rest =>
        obtain ⟨⟨ya, ycap, rfl⟩, hL1⟩ := hcut
        clear hT' d0
        obtain ⟨x0, x1, x2, lx⟩ := HC3.out _ hL1.fr
        go_wp2_with fail
        clear x0 x1 x2 lx
        obtain ⟨ws, rfl⟩ : ∃ ws : World, ws = wc := ⟨_, rfl⟩
        go_loopg [5, 30] cs.size (fun gk v i wx => ∃ (k2 : Nat) (Z : List (Int × Int)), k2 + gk = cs.size ∧ i = .int .i64 k2 ∧ Hid (Z = Y1 ++ ((sbs cs).take k2).map embC) ∧ (∃ a cap, v = .slice a Z.length cap) ∧ OwnG clv 149 2 w wx v Z)
        case atStart => exact ⟨0, Y1, by omega, rfl, by show _ = _; simp, ⟨_, _, rfl⟩, hL1⟩
        case round =>
          clear hL1
          obtain ⟨k2, Z, hk2, rfl, HZ, ⟨za, zcap, rfl⟩, hLZ⟩ := hrel
          have hgk2 : gk + k2 = cs.size := by omega
          clear hk2
          obtain ⟨x0, x1, x2, lx⟩ := HC3.out _ hLZ.fr
          have hZl : Z.length = Y1.length + k2 := by
            rw [HZ.out, List.length_append, List.length_map, List.length_take, sbs_len]
            omega
          by_cases hlt2 : k2 < cs.size
          · have hZl2 : Z.length ≤ 1000000 := by omega
            have hAT2 := sbs_at cs k2 hlt2
            have hk3 : k2 < (sbs cs).length := by rw [sbs_len]; exact hlt2
            have HTK : Hid (((sbs cs).take (k2 + 1)).map embC = ((sbs cs).take k2).map embC ++ [((cs[k2].toNat : Int), (-1 : Int))]) := by
              show _ = _
              rw [List.take_succ_eq_append_getElem hk3, List.map_append]
              have e : (sbs cs)[k2] = (cs[k2].toNat : Int) := by rw [← hAT2, List.getD_eq_getElem?_getD, List.getElem?_eq_getElem hk3]; rfl
              rw [e]; rfl
            have hZo := hLZ.row
            have HLZ := Lib.hid hLZ
            have hbz : w.heap.size ≤ wr.heap.size := Fr.size hLZ.fr
            clear hLZ hZl hAT2 hk3
            go_wp2_with (at_builtin; refine wpList_pushG (vals := clv) rt_cell rfl _ _ rfl w.heap.size _ Z rfl hZo hbz 149 ((cs[k2].toNat : Int), (-1 : Int)) #[.int .u8 (cs[k2].toNat : Int), .int .i64 (-1)] rfl rfl (by simp [clv, Value.oneCell']) 1 _ rfl rfl (by omega) hZl2 ?_; intro v' w1 q1 q2 q3)
            have j1 := HLZ.out.grown ((Fr0.refl _).alloc _) q1 q2
            go_roundg (gk - 1)
            case measure => omega
            case rel => exact ⟨k2 + 1, Z ++ [((cs[k2].toNat : Int), (-1 : Int))], by omega, by go_num, by show _ = _; rw [HTK.out, ← List.append_assoc, ← HZ.out], j1.form, j1⟩
          · have hke : k2 = cs.size := by omega
            subst hke
            have HLZ := Lib.hid hLZ
            have HZ2 : Hid (Z = Y1 ++ (sbs cs).map embC) := by show _ = _; rw [HZ.out, List.take_of_length_le (by rw [sbs_len]; exact Nat.le_refl _)]
            have e1 := IntWalk.i64_in ((B : Int) + (N : Int)) (by omega)
            clear hZl hLZ HZ
            go_upto_region 12 with fail
            go_quiet (fail)
            clear e1
            go_wp2_with fail
            go_roundg (ps.length - k - 1)
            case measure => omega
            case rel => exact ⟨k + 1, B + N, Z, by omega, by go_num, by go_num, ⟨_, _, rfl⟩, ⟨HLZ.out.kept0 ((Fr0.refl _).drewN _), by rw [HZ2.out, List.append_assoc, Int.natCast_add]; exact HFIN.out, ⟨(B : Int) + (N : Int), HF2.out, by omega, by omega⟩⟩⟩
    · have hdr : (ps.map PS.pc).drop k = [] := List.drop_of_length_le (by rw [List.length_map]; omega)
      have hfin := hP.fin
      rw [hdr] at hfin
      have HF3 : Hid (Y ++ part T A T.length = F) := by
        show _ = _
        rw [← hfin]
        unfold patG part
        rw [List.take_of_length_le (by rw [List.length_drop]; omega), Int.toNat_natCast]
      have hfl : (Y ++ part T A T.length).length = Y.length + (part T A T.length).length := List.length_append
      rw [HF3.out] at hfl
      have hYo := hP.own.row
      have hfinish : ∀ v' w1, w1.ownsRow w.heap.size 149 2 v' (Y ++ part T A T.length).length ((Y ++ part T A T.length).flatMap clv) → wr.grownBy w1 (Value.slice va Y.length vcap).ownBlock → OwnG clv 149 2 w w1 v' F := by
        intro v' w1 h1 h2
        have := HP.out.own.grown (Fr0.refl wr) h1 h2
        rw [HF3.out] at this
        exact this
      have HFI := Lib.hid hfinish
      clear hfinish hfin hdr hP hfm hla
      rcases hT'.2 with ⟨h1, h2⟩ | ⟨g, cap', cur, h1, _, hg, hcl, _⟩
      · simp only [Value.slice.injEq] at h1
        obtain ⟨rfl, _, rfl⟩ := h1
        obtain rfl : T = [] := List.eq_nil_of_length_eq_zero h2
        obtain rfl : A = 0 := by simpa using hAT
        clear hT' HT
        go_wp2_with (at_builtin; refine cells_app Y rfl _ _ rfl w.heap.size (.slice va Y.length vcap) rfl hYo _ 0 [] rfl rfl (.inl ⟨rfl, rfl, rfl⟩) (by simp; omega) hbs ?_; intro v' w1 q1 q2)
        go_ret
        exact ⟨_, rfl, HFI.out v' w1 q1 q2⟩
      · simp only [Value.slice.injEq] at h1
        obtain ⟨rfl, _, rfl⟩ := h1
        have hpl := part_len T hAT (Nat.le_refl _)
        have hsl2 : Y.length + (part T A T.length).length ≤ 1000000 := by omega
        by_cases hcA : tcap = A
        · have hz : T.length - tcap = 0 := by omega
          have hS : part T A T.length = [] := List.eq_nil_of_length_eq_zero (by rw [hpl]; omega)
          rw [hS] at HFI hsl2
          subst hcA
          clear hS hpl
          go_wp2_with (at_builtin; refine cells_app Y rfl _ _ rfl w.heap.size (.slice va Y.length vcap) rfl hYo _ 0 [] rfl rfl (src_empty (by first | rfl | exact hz) rfl) hsl2 hbs ?_; intro v' w1 q1 q2)
          go_ret
          exact ⟨_, rfl, HFI.out v' w1 q1 q2⟩
        · have hsrc := fun c m O hm hO => src_part (vals := clv) (fun _ _ => rfl) hT' A T.length hAT (Nat.le_refl _) c m O hm hO
          have HSRC := Lib.hid hsrc
          clear hT' HT hsrc
          go_wp2_with (at_builtin; refine cells_app Y rfl _ _ rfl w.heap.size (.slice va Y.length vcap) rfl hYo _ (T.length - A) (part T A T.length) rfl hpl (HSRC.out _ _ _ rfl (by simp)) hsl2 hbs ?_; intro v' w1 q1 q2)
          go_ret
          exact ⟨_, rfl, HFI.out v' w1 q1 q2⟩

end Go.Proofs.YtclpndigmidjkaaGreat

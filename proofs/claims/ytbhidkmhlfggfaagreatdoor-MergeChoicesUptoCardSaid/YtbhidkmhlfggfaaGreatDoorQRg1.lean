/- The walk of evergreenref43.Groups. -/
import Derived.Test.YtbhidkmhlfggfaaGreatDoorQPx5
import Derived.Test.YtbhidkmhlfggfaaGreatDoorQKy1
import Derived.Test.YtbhidkmhlfggfaaGreatDoorQSet
set_option linter.unusedSimpArgs false
set_option linter.unusedVariables false
namespace Go.Proofs.YtbhidkmhlfggfaaGreatDoor
open Go.RowKit
theorem take_op {l : List Oper} {i : Nat} {o : Oper} {rest : List Oper} (h : l.drop i = o :: rest) : (l.toArray)[i]? = some o := by
 rw [List.getElem?_toArray, ← List.head?_drop, h]; rfl
theorem rgz_len (ys : List Rgp) : (ys.flatMap rgz).length = ys.length * 4 := by
 induction ys with
 | nil => rfl
 | cons y ys ih => rw [List.flatMap_cons, List.length_append, ih, List.length_cons]; show 4 + _ = _; omega
theorem own_less {w : World} {B B' : Nat} {e : TypeId} {size : Nat} {v : Value} {n : Nat} {xs : List Value} (h : w.ownsRow B e size v n xs) (hB : B' ≤ B) : w.ownsRow B' e size v n xs := by
 refine ⟨h.1, ?_⟩
 rcases h.2 with h2 | ⟨g, cap, cur, e1, hb, h3⟩
 · exact .inl h2
 · exact .inr ⟨g, cap, cur, e1, by omega, h3⟩
theorem own_empty {w : World} {B : Nat} (e : TypeId) (size : Nat) (hB : B ≤ w.heap.size) : (w.alloc (.cells #[] e (0, 0))).ownsRow B e size (.slice (some ⟨w.heap.size, 0, none⟩) 0 0) 0 [] :=
 ⟨by simp, .inr ⟨w.heap.size, 0, #[], rfl, hB, alloc_at _ _ _ rfl, Nat.le_refl _, Nat.zero_le _, by simp, by simp⟩⟩
theorem step_part {W5 w : World} {ops : Array Oper} {o : Oper} {a : Act} {K : Act → World → Prop} {Q : Exit → Act → World → Prop} {E : Prop} (hgd : o.guard = none) (s x : Operand)
    (ho : o.op = .call { callee := .builtin .append, args := #[s, x], argTypes := #[78, 78] })
    (v : Value) (xs : List Rgp) (hs : a.eval s = v) (hS : Fr0 W5 w) (hown : w.ownsRow W5.heap.size 81 4 v xs.length (xs.flatMap rgz)) (src : Value) (ys : List Rgp) (hx : a.eval x = src) (m : Nat) (hm : m = ys.length) (hsrc : SrcAt w src m (ys.flatMap rgz))
    (hl : xs.length + ys.length ≤ 1000)
    (h : ∀ v' w', Fr0 W5 w' → w'.ownsRow W5.heap.size 81 4 v' (xs ++ ys).length ((xs ++ ys).flatMap rgz) → K (a.put o.dst v') w') :
    if Region.wanted o (yielded ops a.tmps) = true then Oper.wp Tryz.prog o a w K Q else E := by
 have hw : Region.wanted o (yielded ops a.tmps) = true := by simp [Region.wanted, hgd]
 rw [if_pos hw]
 subst hm
 have hsz : W5.heap.size ≤ w.heap.size := hS.size
 have hone : ∀ u ∈ ys.flatMap rgz, u.oneCell' = true := by
  intro u hu
  obtain ⟨r, _, hr⟩ := List.mem_flatMap.1 hu
  simp only [rgz, List.mem_cons, List.not_mem_nil, or_false] at hr
  rcases hr with rfl | rfl | rfl | rfl <;> rfl
 refine wp_append_rt rt_rgp s x ho W5.heap.size v xs.length (xs.flatMap rgz) hs hown src ys.length (ys.flatMap rgz) hx hsrc (rgz_len ys) hone (by unfold maxLen; omega) (by omega) hsz (fun v' w' h1 h2 _ => ?_)
 refine h v' w' ?_ ?_
 · exact Fr.trans hS (Fr.grown (S := fun j => v.ownBlock = some j) (Fr.refl _ w) h2 (fun j hj _ => hj)) (fun j hj hlt => by have := (hown.lt j hj).1; omega)
 · rw [List.length_append, List.flatMap_append]; exact h1
def CandG (j : Nat) (lst : Int) (x : Rgp) : Prop := j = 0 ∨ lst < x.from_
def Pk (all : List Rgp) (j : Nat) (lst : Int) (k : Nat) (f : Int) : Prop :=
 (f = -1 ∧ ∀ (y : Nat) (hy : y < all.length), y < k → ¬ CandG j lst all[y]) ∨
 ∃ (m : Nat) (hm : m < all.length), m < k ∧ f = m ∧ CandG j lst all[m] ∧ ∀ (y : Nat) (hy : y < all.length), y < k → CandG j lst all[y] → all[m].from_ ≤ all[y].from_
theorem Pk.start (all : List Rgp) (j : Nat) (lst : Int) : Pk all j lst 0 (-1) := .inl ⟨rfl, fun y _ h => absurd h (by omega)⟩
theorem Pk.step {all : List Rgp} {j : Nat} {lst : Int} {k : Nat} {f F : Int} (h : Pk all j lst k f) (hk : k < all.length) (hF : ∀ (m : Nat) (hm : m < all.length), f = m → all[m].from_ = F) {c : Bool}
    (hc : ((decide (j = 0) || decide (lst < all[k].from_)) && (decide (f < 0) || decide (all[k].from_ < F))) = c) : Pk all j lst (k + 1) (if c = true then (k : Int) else f) := by
 have hcand : (decide (j = 0) || decide (lst < all[k].from_)) = true ↔ CandG j lst all[k] := by
  unfold CandG
  rw [Bool.or_eq_true, decide_eq_true_iff, decide_eq_true_iff]
 cases c with
 | true =>
  rw [if_pos rfl]
  rw [Bool.and_eq_true, hcand, Bool.or_eq_true, decide_eq_true_iff, decide_eq_true_iff] at hc
  obtain ⟨h1, h2⟩ := hc
  refine .inr ⟨k, hk, by omega, rfl, h1, fun y hy hyk hcy => ?_⟩
  by_cases e : y = k
  · subst e; exact Int.le_refl _
  · rcases h with ⟨rfl, hn⟩ | ⟨m, hm, hmk, rfl, hcm, hmin⟩
    · exact absurd hcy (hn y hy (by omega))
    · have := hmin y hy (by omega) hcy
      have := hF m hm rfl
      omega
 | false =>
  rw [if_neg (by decide)]
  rw [Bool.and_eq_false_iff] at hc
  rcases h with ⟨rfl, hn⟩ | ⟨m, hm, hmk, rfl, hcm, hmin⟩
  · refine .inl ⟨rfl, fun y hy hyk hcy => ?_⟩
    by_cases e : y = k
    · subst e
      rcases hc with hc | hc
      · rw [hcand.2 hcy] at hc; cases hc
      · simp at hc
    · exact hn y hy (by omega) hcy
  · refine .inr ⟨m, hm, by omega, rfl, hcm, fun y hy hyk hcy => ?_⟩
    by_cases e : y = k
    · subst e
      rcases hc with hc | hc
      · rw [hcand.2 hcy] at hc; cases hc
      · rw [Bool.or_eq_false_iff] at hc
        have h1 := of_decide_eq_false hc.2
        have := hF m hm rfl
        omega
    · exact hmin y hy (by omega) hcy
theorem Pk.pick {all : List Rgp} {gs : List (Grp PC)} {zs : List (PC × Bool)} {mx : Int} (g : GI PC.at_ PC.n gs zs mx) (hfin : ∀ t, t ∈ all ↔ t ∈ gs.map Grp.rg) {j : Nat} (hj : j < gs.length) {lst : Int} (hl : ∀ h : 0 < j, gs[j - 1].at_ = lst) {f : Int} (h : Pk all j lst all.length f) :
    ∃ (m : Nat) (hm : m < all.length), f = m ∧ all[m] = gs[j].rg := by
 have h1 : gs[j].rg ∈ all := (hfin _).2 (List.mem_map_of_mem (List.getElem_mem hj))
 obtain ⟨y, hy, ey⟩ := List.getElem_of_mem h1
 have hcy : CandG j lst all[y] := by
  rw [ey]
  by_cases h0 : 0 < j
  · right
    rw [← hl h0]
    exact g.behind hj h0
  · left; omega
 rcases h with ⟨_, hn⟩ | ⟨m, hm, _, rfl, hcm, hmin⟩
 · exact absurd hcy (hn y hy hy)
 · refine ⟨m, hm, rfl, ?_⟩
   have h2 := hmin y hy hy hcy
   rw [ey] at h2
   have h3 := g.next hj (x := all[m]) ((hfin _).1 (List.getElem_mem hm)) (fun hk0 => by
    rcases hcm with h | h
    · omega
    · rw [hl hk0]; exact h)
   have e : gs[j].rg.from_ = gs[j].at_ := rfl
   exact h3.2 (by omega)
set_option maxRecDepth 100000 in
set_option maxHeartbeats 40000000 in
theorem r43_Groups {B : Nat} {w : World} {a b : Option Addr} {ca cb : Nat} {ps qs : List PS} (hA : RG PS.vals 3 B w a ps) (hB : RG PS.vals 3 B w b qs) (hc : ps.length + qs.length ≤ 1000) (hn : ∀ c ∈ ps ++ qs, 0 ≤ c.at_ ∧ 0 ≤ c.n ∧ c.at_ + c.n ≤ 1000000) {gs : List (Grp PC)} {m : Int} (hG : GI PC.at_ PC.n gs (mrgS PC.at_ (ps.map PS.pc) (qs.map PS.pc)) m) :
    Calls Tryz.prog 25 #[.slice a ps.length ca, .slice b qs.length cb] w fun e w' => ∃ v, e = .returned v ∧ RgRow w w' v (gs.map Grp.rg) ∧ Fr0 w w' := by
 have HA := Lib.hid hA
 have HB := Lib.hid hB
 have HN := Lib.hid hn
 have HG := Lib.hid hG
 have hpl : ps.length ≤ 1000 := by omega
 have hql : qs.length ≤ 1000 := by omega
 clear hA hB hn hG
 go_enter Tryz.func25, Tryz.ntmps25
 go_wp2_with fail
 go_loopg [5, 17] ps.length (fun gk v i wr => ∃ k : Nat, k + gk = ps.length ∧ i = .int .i64 k ∧ Fr0 w wr ∧ RgRow w wr v ((ps.take k).map (rone true)))
 case atStart => exact ⟨0, by omega, rfl, Fr0.refl w, World.ownsRow_nil _ _ _ _⟩
 case round =>
  obtain ⟨k, hk, rfl, hfr, hrow⟩ := hrel
  by_cases hlt : k < ps.length
  · obtain ⟨b0, o0, rfl, lb0, c0, c1, _⟩ := read_ps (HA.out.kept0 hfr) k hlt
    have hx := HN.out ps[k] (by simp)
    have HT : Hid ((ps.take (k + 1)).map (rone true) = (ps.take k).map (rone true) ++ [rone true ps[k]]) := by show _ = _; rw [List.take_succ_eq_append_getElem hlt, List.map_append]; rfl
    have hxl : ((ps.take k).map (rone true)).length ≤ 1000 := by simp; omega
    have HR := Lib.hid hrow
    obtain ⟨va, vc, rfl⟩ := owns_form hrow
    have hbs : w.heap.size ≤ wr.heap.size := hfr.size
    have HF := Lib.hid hfr
    have hfar : some b0 ≠ (Value.slice va ((ps.take k).map (rone true)).length vc).ownBlock := fun e => by
     obtain ⟨b1, o1, e1, l1, _⟩ := read_ps HA.out k hlt
     simp only [Option.some.injEq, Addr.mk.injEq, and_true] at e1
     have := (hrow.lt b0 e.symm).1
     omega
    clear hrow hfr
    generalize hxs : (ps.take k).map (rone true) = xs at *
    generalize ps[k] = x at *
    obtain ⟨xa, xn, xss⟩ := x
    dsimp only at *
    have z1 := IntWalk.i64_in (xa + xn) (by omega)
    go_upto_region 5 with fail
    go_region_held3 (fun w' => w'.cell? ⟨b0, o0 + k * 3, none⟩ = some (.int .i64 xa) ∧ w'.cell? ⟨b0, o0 + k * 3 + 1, none⟩ = some (.int .i64 xn))
     (first
      | (go_keep; done)
      | (go_split_ands
         refine ⟨?_, ?_⟩
         · (rw [hg4.cell_far _ (by simp; omega) hfar]; assumption)
         · (rw [hg4.cell_far _ (by simp; omega) hfar]; assumption)))
     ((refine step_pushN (vals := rgz) rt_rgp (by rfl) _ _ (by rfl) w.heap.size _ xs [⟨xa, xa + xn, true, false⟩] (by rfl) HR.out hbs 81 #[.int .i64 xa, .int .i64 (xa + xn), .bool true, .bool false] (by rfl) (by rfl) (by simp [rgz, Value.oneCell']) 1 wr.heap.size 1 (by rfl) (by omega) (by rfl) (by rfl) (by omega) (by omega) (by simp) ?_; intro g2 gcap w4 hO4 hg4 hat4))
    all_goals
     have HFX : Hid (Fr0 w w4) := Fr.trans HF.out (Fr.grown (S := fun j => (Value.slice va xs.length vc).ownBlock = some j) ((Fr.refl _ wr).alloc _).drew hg4 (fun j hj _ => hj)) (fun j hj hlt => by have := (HR.out.lt j hj).1; omega)
     have HO4 := Lib.hid hO4
     clear hO4 hg4 hat4 c0 c1 lb0
     go_wp2_with fail
     go_roundg (gk - 1)
     case measure => omega
     case rel => exact ⟨k + 1, by omega, by go_num, HFX.out, by rw [HT.out]; exact HO4.out⟩
  · have hrow2 : RgRow w wr u5 (ps.map (rone true) ++ (qs.take 0).map (rone false)) := by
      rw [List.take_of_length_le (by omega)] at hrow
      rw [List.take_zero, List.map_nil, List.append_nil]; exact hrow
    have HR0 := Lib.hid hrow2
    have HF0 := Lib.hid hfr
    clear hrow hrow2 hfr HA
    go_wp2_with fail
    go_loopg [5, 43] qs.length (fun gk v i wr => ∃ k : Nat, k + gk = qs.length ∧ i = .int .i64 k ∧ Fr0 w wr ∧ RgRow w wr v (ps.map (rone true) ++ (qs.take k).map (rone false)))
    case atStart => exact ⟨0, by omega, rfl, HF0.out, HR0.out⟩
    case round =>
     clear HR0 HF0
     obtain ⟨k, hk, rfl, hfr, hrow⟩ := hrel
     by_cases hlt : k < qs.length
     · obtain ⟨b0, o0, rfl, lb0, c0, c1, _⟩ := read_ps (HB.out.kept0 hfr) k hlt
       have hx := HN.out qs[k] (by simp)
       have HT : Hid (ps.map (rone true) ++ (qs.take (k + 1)).map (rone false) = (ps.map (rone true) ++ (qs.take k).map (rone false)) ++ [rone false qs[k]]) := by show _ = _; rw [List.take_succ_eq_append_getElem hlt, List.map_append, List.append_assoc]; rfl
       have hxl : (ps.map (rone true) ++ (qs.take k).map (rone false)).length ≤ 2000 := by simp; omega
       have HR := Lib.hid hrow
       obtain ⟨va, vc, rfl⟩ := owns_form hrow
       have hbs : w.heap.size ≤ wr.heap.size := hfr.size
       have HF := Lib.hid hfr
       have hfar : some b0 ≠ (Value.slice va (ps.map (rone true) ++ (qs.take k).map (rone false)).length vc).ownBlock := fun e => by
        obtain ⟨b1, o1, e1, l1, _⟩ := read_ps HB.out k hlt
        simp only [Option.some.injEq, Addr.mk.injEq, and_true] at e1
        have := (hrow.lt b0 e.symm).1
        omega
       clear hrow hfr
       generalize hxs : ps.map (rone true) ++ (qs.take k).map (rone false) = xs at *
       generalize qs[k] = x at *
       obtain ⟨xa, xn, xss⟩ := x
       dsimp only at *
       have z1 := IntWalk.i64_in (xa + xn) (by omega)
       go_upto_region 10 with fail
       go_region_held3 (fun w' => w'.cell? ⟨b0, o0 + k * 3, none⟩ = some (.int .i64 xa) ∧ w'.cell? ⟨b0, o0 + k * 3 + 1, none⟩ = some (.int .i64 xn))
        (first
         | (go_keep; done)
         | (go_split_ands
            refine ⟨?_, ?_⟩
            · (rw [hg4.cell_far _ (by simp; omega) hfar]; assumption)
            · (rw [hg4.cell_far _ (by simp; omega) hfar]; assumption)))
        ((refine step_pushN (vals := rgz) rt_rgp (by rfl) _ _ (by rfl) w.heap.size _ xs [⟨xa, xa + xn, false, true⟩] (by rfl) HR.out hbs 81 #[.int .i64 xa, .int .i64 (xa + xn), .bool false, .bool true] (by rfl) (by rfl) (by simp [rgz, Value.oneCell']) 1 wr.heap.size 1 (by rfl) (by omega) (by rfl) (by rfl) (by omega) (by omega) (by simp) ?_; intro g2 gcap w4 hO4 hg4 hat4))
       all_goals
        have HFX : Hid (Fr0 w w4) := Fr.trans HF.out (Fr.grown (S := fun j => (Value.slice va xs.length vc).ownBlock = some j) ((Fr.refl _ wr).alloc _).drew hg4 (fun j hj _ => hj)) (fun j hj hlt => by have := (HR.out.lt j hj).1; omega)
        have HO4 := Lib.hid hO4
        clear hO4 hg4 hat4 c0 c1 lb0
        go_wp2_with fail
        go_roundg (gk - 1)
        case measure => omega
        case rel => exact ⟨k + 1, by omega, by go_num, HFX.out, by rw [HT.out]; exact HO4.out⟩
     · have hrow2 : RgRow w wr u5 (ps.map (rone true) ++ qs.map (rone false)) := by
         rw [List.take_of_length_le (by omega)] at hrow; exact hrow
       obtain ⟨hstart, hbd, hzn⟩ := rg_start HN.out
       have HZN := Lib.hid hzn
       have hal : (ps.map (rone true) ++ qs.map (rone false)).length ≤ 1000 := by simp; omega
       have HS0 := Lib.hid hstart
       have HR0 := Lib.hid hrow2
       have HF0 := Lib.hid hfr
       have HBD0 := Lib.hid hbd
       clear hrow hrow2 hfr HB hstart hbd HN hzn
       generalize ps.map (rone true) ++ qs.map (rone false) = all0 at *
       generalize mrgS PC.at_ (ps.map PS.pc) (qs.map PS.pc) = zs at *
       go_wp2_with fail
       go_loopg [5, 8] (all0.length + 1) (fun gk v5 v8 wr => ∃ (all : List Rgp) (ag : Bool), v8 = .bool ag ∧ Fr0 w wr ∧ RgRow w wr v5 all ∧ Rgi PC.at_ PC.n all zs ∧ (∀ r ∈ all, 0 ≤ r.from_ ∧ r.from_ ≤ 1000000 ∧ 0 ≤ r.to_ ∧ r.to_ ≤ 1000000) ∧ all.length ≤ 1000 ∧ (ag = false → ApartG all) ∧ gk = (if ag = true then all.length + 1 else 0))
       case atStart => exact ⟨all0, true, rfl, HF0.out, HR0.out, HS0.out, HBD0.out, hal, (fun h => by cases h), rfl⟩
       case round =>
        clear HF0 HR0 HS0 HBD0 hal
        obtain ⟨all, ag, rfl, hfr, hrow, hrgi, hbd, hal, hap, hgk⟩ := hrel
        cases ag with
        | false =>
         as_aux_lemma =>
         have HFI : Hid (∀ t, t ∈ all ↔ t ∈ gs.map Grp.rg) := fun t => hrgi.final HG.out HZN.out (hap rfl) t
         have HCN : Hid (all.length = gs.length) := hrgi.count HG.out HZN.out (hap rfl)
         have HRO := Lib.hid hrow
         have HFO := Lib.hid hfr
         obtain ⟨va, vc, rfl⟩ := owns_form hrow
         clear hap hfr hrow hrgi hbd hgk
         obtain ⟨n, hn⟩ : ∃ n, all.length = n := ⟨_, rfl⟩
         have HNL := Lib.hid hn
         rw [hn] at hal
         rw [hn]
         clear hn
         go_wp2_with fail
         obtain ⟨wo, hwo⟩ : ∃ wo : World, wo = wr := ⟨_, rfl⟩
         rw [← hwo] at HFO HRO ⊢
         clear hwo
         go_loopg [12] n (fun gk v12 wr => ∃ (j : Nat) (sa : Option Addr) (sc : Nat), j + gk = n ∧ v12 = .slice sa j sc ∧ Fr0 wo wr ∧ RgRow wo wr v12 ((gs.take j).map Grp.rg))
         case atStart => exact ⟨0, none, 0, by omega, rfl, Fr0.refl wo, World.ownsRow_nil _ _ _ _⟩
         case round =>
          obtain ⟨j, sa, sc, hj, rfl, hf, hrow⟩ := hrel
          by_cases hlt : j < n
          · have hjg : j < gs.length := by have := HCN.out; have := HNL.out; omega
            obtain ⟨lst, hlst⟩ : ∃ lst : Int, ∀ h : 0 < j, gs[j - 1].at_ = lst := by
             by_cases h : 0 < j
             · exact ⟨(gs[j - 1]'(by omega)).at_, fun _ => rfl⟩
             · exact ⟨0, fun h2 => absurd h2 h⟩
            have HLS := Lib.hid hlst
            have HS := Lib.hid hrow
            have HF := Lib.hid hf
            clear hlst hrow hf
            go_wp2_with fail
            obtain ⟨wp, hwp⟩ : ∃ wp : World, wp = wr := ⟨_, rfl⟩
            rw [← hwp] at HS HF ⊢
            clear hwp
            go_loopg [13, 185] n (fun g2 v13 v185 wx => ∃ (k : Nat) (f : Int), k + g2 = n ∧ v185 = .int .i64 k ∧ v13 = .int .i64 f ∧ Fr0 wp wx ∧ Pk all j lst k f)
            case atStart => exact ⟨0, -1, by omega, rfl, rfl, Fr0.refl wp, Pk.start _ _ _⟩
            case round =>
             obtain ⟨k, f, hk, rfl, rfl, hfx, hpk⟩ := hrel
             by_cases hlk : k < n
             · have hka : k < all.length := by have := HNL.out; omega
               obtain ⟨F, hF⟩ : ∃ F : Int, ∀ (m : Nat) (hm : m < all.length), f = m → all[m].from_ = F := by
                rcases hpk with ⟨rfl, _⟩ | ⟨m, hm, _, rfl, _⟩
                · exact ⟨0, fun m _ h => absurd h (by omega)⟩
                · exact ⟨all[m].from_, fun m2 hm2 h => by
                    have e : m2 = m := by omega
                    subst e; rfl⟩
               obtain ⟨c, hc⟩ : ∃ c : Bool, ((decide (j = 0) || decide (lst < all[k].from_)) && (decide (f < 0) || decide (all[k].from_ < F))) = c := ⟨_, rfl⟩
               have HC := Lib.hid hc
               have HPK := Lib.hid hpk
               have HPS := Lib.hid (hpk.step hka hF hc)
               have HFX := Lib.hid hfx
               have HFF := Lib.hid hF
               clear hc hpk hfx hF
               go_upto_region 34 with fail
               go_cut [222] (fun u wx => u = .bool c ∧ Fr0 wr wx)
               case first =>
                have hc := HC.out
                have hpk := HPK.out
                obtain ⟨bb, c0, e1, lb, _, hcap, k0, _, _, _⟩ := read_rg ((HRO.out.kept0 HF.out).kept0 HFX.out) k hka
                simp only [Value.slice.injEq, true_and] at e1
                rw [HNL.out] at hcap
                obtain ⟨e1a, e1b⟩ := e1
                subst e1a
                subst e1b
                have hfm : f = -1 ∨ ∃ m : Nat, f = m ∧ m < n ∧ wr.cell? ⟨bb, m * 4, none⟩ = some (.int .i64 F) := by
                 rcases hpk with ⟨rfl, _⟩ | ⟨m, hm, _, rfl, _⟩
                 · exact .inl rfl
                 · obtain ⟨b2, c2, e2, _, _, _, m0, _, _, _⟩ := read_rg ((HRO.out.kept0 HF.out).kept0 HFX.out) m hm
                   simp only [Value.slice.injEq, Option.some.injEq, Addr.mk.injEq, and_true, true_and] at e2
                   obtain ⟨e2a, _⟩ := e2
                   subst e2a
                   rw [HFF.out m hm rfl] at m0
                   exact .inr ⟨m, rfl, by have := HNL.out; omega, m0⟩
                have hsj : j = 0 ∨ ∃ (j2 sb : Nat), j = j2 + 1 ∧ sa = some ⟨sb, 0, none⟩ ∧ j2 + 1 ≤ sc ∧ wr.cell? ⟨sb, j2 * 4, none⟩ = some (.int .i64 lst) := by
                 by_cases h0 : j = 0
                 · exact .inl h0
                 · obtain ⟨j2, rfl⟩ : ∃ j2, j = j2 + 1 := ⟨j - 1, by omega⟩
                   have hlen : ((gs.take (j2 + 1)).map Grp.rg).length = j2 + 1 := by rw [List.length_map, List.length_take]; omega
                   obtain ⟨b2, c2, e2, _, _, hc2, m0, _, _, _⟩ := read_rg (HS.out.kept0 HFX.out) j2 (by rw [hlen]; omega)
                   rw [hlen] at hc2
                   simp only [Value.slice.injEq] at e2
                   obtain ⟨e2a, _, e2c⟩ := e2
                   subst e2c
                   refine .inr ⟨j2, b2, rfl, e2a, hc2, ?_⟩
                   have e3 : ((gs.take (j2 + 1)).map Grp.rg)[j2]'(by rw [hlen]; omega) = gs[j2].rg := by rw [List.getElem_map, List.getElem_take]
                   rw [e3] at m0
                   have e4 := HLS.out (by omega)
                   simp only [Nat.add_sub_cancel] at e4
                   have e5 : gs[j2].rg.from_ = lst := e4
                   rw [e5] at m0
                   exact m0
                clear hpk HC HPK HPS HFX HFF HS HF HLS HRO HFO HFI HCN HG HZN HNL lb hjg
                generalize all[k].from_ = fk at *
                have f1 : (k : Int) < (n : Int) := by omega
                rcases hsj with rfl | ⟨j2, sb, rfl, rfl, hsc, s0⟩
                · skip
                  rcases hfm with rfl | ⟨m, rfl, hmn, m0⟩
                  · obtain rfl : c = true := by rw [← hc]; simp
                    clear hc
                    go_quiet (fail)
                    go_wp2_with fail
                    go_meet
                    exact ⟨rfl, (Fr0.refl _).drewN _⟩
                  · have g1 : ¬ (m : Int) < 0 := by omega
                    have g2 : (m : Int) < (n : Int) := by omega
                    by_cases h2 : fk < F
                    · have d2 : decide (fk < F) = true := decide_eq_true h2
                      obtain rfl : c = true := by rw [← hc]; simp [h2]
                      clear hc
                      go_quiet (fail)
                      go_wp2_with fail
                      go_meet
                      exact ⟨rfl, (Fr0.refl _).drewN _⟩
                    · have d2 : decide (fk < F) = false := decide_eq_false h2
                      obtain rfl : c = false := by rw [← hc]; simp [h2, g1]
                      clear hc
                      go_quiet (fail)
                      go_wp2_with fail
                      go_meet
                      exact ⟨rfl, (Fr0.refl _).drewN _⟩
                · have z0 : ¬ ((j2 : Int) + 1 = 0) := by omega
                  have z1 := IntWalk.i64_in (j2 : Int) (by omega)
                  have z7 : ((j2 : Int) + 1 == 0) = false := by simp; omega
                  have z6 : (j2 : Int) < (j2 : Int) + 1 := by omega
                  by_cases hb : lst < fk
                  · have d1 : decide (lst < fk) = true := decide_eq_true hb
                    rcases hfm with rfl | ⟨m, rfl, hmn, m0⟩
                    · obtain rfl : c = true := by rw [← hc]; simp [hb]
                      clear hc
                      go_quiet (fail)
                      go_wp2_with fail
                      go_meet
                      exact ⟨rfl, (Fr0.refl _).drewN _⟩
                    · have g1 : ¬ (m : Int) < 0 := by omega
                      have g2 : (m : Int) < (n : Int) := by omega
                      by_cases h2 : fk < F
                      · have d2 : decide (fk < F) = true := decide_eq_true h2
                        obtain rfl : c = true := by rw [← hc]; simp [h2, hb]
                        clear hc
                        go_quiet (fail)
                        go_wp2_with fail
                        go_meet
                        exact ⟨rfl, (Fr0.refl _).drewN _⟩
                      · have d2 : decide (fk < F) = false := decide_eq_false h2
                        obtain rfl : c = false := by rw [← hc]; simp [h2, g1]
                        clear hc
                        go_quiet (fail)
                        go_wp2_with fail
                        go_meet
                        exact ⟨rfl, (Fr0.refl _).drewN _⟩
                  · have d1 : decide (lst < fk) = false := decide_eq_false hb
                    obtain rfl : c = false := by rw [← hc]; simp [hb]
                    clear hc
                    go_quiet (fail)
                    go_wp2_with fail
                    go_meet
                    exact ⟨rfl, (Fr0.refl _).drewN _⟩
               case rest =>
               obtain ⟨rfl, hF4⟩ := hcut
               rename World => W4
               have HF4 := Lib.hid (HFX.out.trans hF4)
               clear hF4 HFX
               cases c with
               | false =>
                go_wp2_with fail
                go_roundg (gk - 1)
                case measure => omega
                case rel => exact ⟨k + 1, f, by omega, by go_num, rfl, HF4.out, HPS.out⟩
               | true =>
                go_wp2_with fail
                go_roundg (gk - 1)
                case measure => omega
                case rel => exact ⟨k + 1, (k : Int), by omega, by go_num, rfl, HF4.out, HPS.out⟩
             · have hkn : k = n := by omega
               subst hkn
               obtain ⟨m, hm, rfl, hmj⟩ := Pk.pick HG.out HFI.out hjg HLS.out (by rw [HNL.out]; exact hpk)
               have hmn : m < k := by have := HNL.out; omega
               obtain ⟨bb, c0, e1, lb, _, hcap, m0, m1, m2, m3⟩ := read_rg ((HRO.out.kept0 HF.out).kept0 hfx) m hm
               rw [hmj] at m0 m1 m2 m3
               have hS2 := HS.out.kept0 hfx
               have HFX := Lib.hid (HF.out.trans hfx)
               have HT : Hid ((gs.take (j + 1)).map Grp.rg = (gs.take j).map Grp.rg ++ [gs[j].rg]) := by show _ = _; rw [List.take_succ_eq_append_getElem hjg, List.map_append]; rfl
               have HLN : Hid (((gs.take j).map Grp.rg).length = j) := by show _ = _; rw [List.length_map, List.length_take]; omega
               have hz : ((gs.take j).map Grp.rg).length ≤ 1000 := by rw [HLN.out]; omega
               have hbs : wo.heap.size ≤ wr.heap.size := HFX.out.size
               have HS2 := Lib.hid hS2
               simp only [Value.slice.injEq, true_and] at e1
               obtain ⟨e1a, e1b⟩ := e1
               subst e1a
               subst e1b
               rw [HNL.out] at hcap
               clear hpk hfx hmj hS2 HF HS HLS
               generalize (gs.take j).map Grp.rg = Z at *
               generalize gs[j].rg = y at *
               have f1 : (m : Int) < (k : Int) := by omega
               have hS3 : wr.ownsRow wo.heap.size 81 4 (.slice sa j sc) Z.length (Z.flatMap rgz) := HS2.out
               go_wp2_with (at_builtin; refine wpList_pushG (vals := rgz) rt_rgp rfl _ _ rfl wo.heap.size _ Z rfl hS3 hbs 81 y #[.int .i64 y.from_, .int .i64 y.to_, .bool y.l, .bool y.r] rfl rfl (by simp [rgz, Value.oneCell']) 1 _ rfl rfl (by omega) (by omega) ?_; intro v4 w4 hO4 hg4 hat4)
               have HFX4 : Hid (Fr0 wo w4) := Fr.trans HFX.out (Fr.grown (S := fun q => (Value.slice sa j sc).ownBlock = some q) ((Fr.refl _ wr).alloc _) hg4 (fun q hq _ => hq)) (fun q hq hlt => by have := (HS2.out.lt q hq).1; omega)
               obtain ⟨sa2, sc2, e4⟩ := owns_form hO4
               rw [List.length_append, HLN.out] at e4
               have e5 : v4 = .slice sa2 (j + 1) sc2 := e4
               subst e5
               have HO4 := Lib.hid hO4
               clear hO4 hg4 hat4 m0 m1 m2 m3 e4 hS3
               go_roundg (k - (j + 1))
               case measure => omega
               case rel => exact ⟨j + 1, sa2, sc2, by omega, rfl, HFX4.out, by rw [HT.out]; exact HO4.out⟩
          · have hjn : j = n := by omega
            have hfin : RgRow wo wr (.slice sa j sc) (gs.map Grp.rg) := by
             have e : gs.take j = gs := List.take_of_length_le (by have := HCN.out; have := HNL.out; omega)
             rw [e] at hrow
             exact hrow
            have hsz : w.heap.size ≤ wo.heap.size := HFO.out.size
            have HR9 := Lib.hid (own_less hfin hsz)
            have HF9 := Lib.hid (HFO.out.trans hf)
            clear hfin hrow hf
            go_wp2_with fail
            exact bodyPost_ret (v := .slice sa j sc) (by simp [results, Tryz.results25, go_sem]) rfl ⟨_, rfl, HR9.out, HF9.out⟩
        | true =>
         as_aux_lemma =>
         rw [if_pos rfl] at hgk
         have HGK := Lib.hid hgk
         have HFO := Lib.hid hfr
         have HRO := Lib.hid hrow
         have HRI := Lib.hid hrgi
         have HBD := Lib.hid hbd
         obtain ⟨va, vc, rfl⟩ := owns_form hrow
         clear hap hfr hrow hrgi hbd hgk
         go_wp2_with fail
         obtain ⟨wo, hwo⟩ : ∃ wo : World, wo = wr := ⟨_, rfl⟩
         rw [← hwo] at HFO HRO ⊢
         clear hwo
         go_loopg [5, 8, 70] all.length (fun g2 v5 v8 v70 wr => ∃ i : Nat, i + g2 = all.length ∧ v70 = .int .i64 i ∧ v8 = .bool false ∧ v5 = .slice va all.length vc ∧ Fr0 wo wr ∧ NoOvl all i)
         case atStart => exact ⟨0, by omega, rfl, rfl, rfl, Fr0.refl wo, fun x y _ _ _ h => absurd h (by omega)⟩
         case round =>
          obtain ⟨i, hi, rfl, rfl, rfl, hf2, hno⟩ := hrel
          by_cases hlt : i < all.length
          · have HNO := Lib.hid hno
            have HF2 := Lib.hid hf2
            clear hno hf2
            go_wp2_with fail
            go_loopg [5, 8, 10] (all.length - (i + 1)) (fun g3 v5 v8 v10 wr => ∃ k : Nat, v10 = .int .i64 k ∧ i < k ∧ k ≤ 1001 ∧
             ((v8 = .bool false ∧ v5 = .slice va all.length vc ∧ Fr0 wo wr ∧ g3 + k = all.length ∧ (∀ (y : Nat) (hy : y < all.length), i < y → y < k → all[i].ovl all[y] = false))
              ∨ (v8 = .bool true ∧ g3 = 0 ∧ ∃ all2, RgRow w wr v5 all2 ∧ Fr0 w wr ∧ Rgi PC.at_ PC.n all2 zs ∧ (∀ r ∈ all2, 0 ≤ r.from_ ∧ r.from_ ≤ 1000000 ∧ 0 ≤ r.to_ ∧ r.to_ ≤ 1000000) ∧ all2.length + 1 = all.length)))
            case atStart => exact ⟨i + 1, by go_num, by omega, by omega, .inl ⟨rfl, rfl, HF2.out, by omega, fun y _ h1 h2 => absurd h1 (by omega)⟩⟩
            case round =>
             clear HF2
             obtain ⟨k, rfl, hik, hk1, hcase⟩ := hrel
             rcases hcase with ⟨rfl, rfl, hf3, hg3, hov⟩ | ⟨rfl, hg3, all2, hr2, hf3, hri2, hbd2, hl2⟩
             · by_cases hlk : k < all.length
               · have hrow := HRO.out.kept0 hf3
                 obtain ⟨bb, cc, e1, lb, hwb, hcap, i0, i1, i2, i3⟩ := read_rg hrow i hlt
                 simp only [Value.slice.injEq, true_and] at e1
                 obtain ⟨rfl, rfl⟩ := e1
                 obtain ⟨b2, c2, e2, _, _, _, k0, k1, k2, k3⟩ := read_rg hrow k hlk
                 simp only [Value.slice.injEq, Option.some.injEq, Addr.mk.injEq, and_true, true_and] at e2
                 obtain ⟨rfl, rfl⟩ := e2
                 have HOV := Lib.hid hov
                 have HF3 := Lib.hid hf3
                 obtain ⟨ov, hov2⟩ : ∃ ov, all[i].ovl all[k] = ov := ⟨_, rfl⟩
                 have HOV2 := Lib.hid hov2
                 have hne : i ≠ k := by omega
                 clear hov hf3 hov2 hrow
                 go_upto_region 21 with fail
                 go_cut [108] (fun u wx => u = .bool ov ∧ Fr0 wr wx)
                 case first =>
                  have hv : ov = (decide (all[i].from_ ≤ all[k].to_) && decide (all[k].from_ ≤ all[i].to_)) := HOV2.out.symm
                  clear HNO HRO HRI HBD HFO HGK HOV HOV2 HF3
                  generalize all[i].from_ = fi at *
                  generalize all[i].to_ = ti at *
                  generalize all[k].from_ = fk at *
                  generalize all[k].to_ = tk at *
                  by_cases h1 : fi ≤ tk
                  · have d1 : decide (fi ≤ tk) = true := decide_eq_true h1
                    by_cases h2 : fk ≤ ti
                    · have d2 : decide (fk ≤ ti) = true := decide_eq_true h2
                      rw [d1, d2] at hv
                      obtain rfl : ov = true := hv
                      clear h1 h2
                      go_quiet (fail)
                      go_wp2_with fail
                      go_meet
                      exact ⟨rfl, (Fr0.refl _).drewN _⟩
                    · have d2 : decide (fk ≤ ti) = false := decide_eq_false h2
                      rw [d1, d2] at hv
                      obtain rfl : ov = false := hv
                      clear h1 h2
                      go_quiet (fail)
                      go_wp2_with fail
                      go_meet
                      exact ⟨rfl, (Fr0.refl _).drewN _⟩
                  · have d1 : decide (fi ≤ tk) = false := decide_eq_false h1
                    rw [d1] at hv
                    obtain rfl : ov = false := hv
                    clear h1
                    go_quiet (fail)
                    go_wp2_with fail
                    go_meet
                    exact ⟨rfl, (Fr0.refl _).drewN _⟩
                 case rest =>
                 obtain ⟨rfl, hF4⟩ := hcut
                 rename World => W4
                 have HF4 := Lib.hid (HF3.out.trans hF4)
                 clear hF4 HF3 i0 i1 i2 i3 k0 k1 k2 k3 lb
                 cases ov with
                 | false =>
                  go_wp2_with fail
                  go_roundg (gk - 1)
                  case measure => omega
                  case rel => exact ⟨k + 1, by go_num, by omega, by omega, .inl ⟨rfl, rfl, HF4.out, by omega, fun y hy h1 h2 => by
                   by_cases e : y = k
                   · subst e; exact HOV2.out
                   · exact HOV.out y hy h1 (by omega)⟩⟩
                 | true =>
                  have hrow4 := HRO.out.kept0 HF4.out
                  obtain ⟨b3, c3, e3, lb, _, hcap3, i0, i1, i2, i3⟩ := read_rg hrow4 i hlt
                  simp only [Value.slice.injEq, Option.some.injEq, Addr.mk.injEq, and_true, true_and] at e3
                  obtain ⟨rfl, rfl⟩ := e3
                  obtain ⟨b2, c2, e2, _, _, _, k0, k1, k2, k3⟩ := read_rg hrow4 k hlk
                  simp only [Value.slice.injEq, Option.some.injEq, Addr.mk.injEq, and_true, true_and] at e2
                  obtain ⟨rfl, rfl⟩ := e2
                  obtain ⟨jr, hjr⟩ : ∃ jr, all[i].join all[k] = jr := ⟨_, rfl⟩
                  have HJR := Lib.hid hjr
                  have HRW := Lib.hid hrow4
                  clear hjr hrow4
                  go_upto_region 22 with fail
                  go_cut [11] (fun u11 wx => ∃ X, u11 = .pointer (some ⟨X, 0, none⟩) ∧ Fr0 W4 wx ∧ W4.heap.size ≤ X ∧ wx.heap[X]? = some (.cells #[.int .i64 jr.from_, .int .i64 jr.to_, .bool jr.l, .bool jr.r] 81 (0, 0)))
                  case first =>
                   have hj : jr.from_ = min all[i].from_ all[k].from_ ∧ jr.to_ = max all[i].to_ all[k].to_ ∧ jr.l = (all[i].l || all[k].l) ∧ jr.r = (all[i].r || all[k].r) := by rw [← HJR.out]; exact ⟨rfl, rfl, rfl, rfl⟩
                   have HJ := Lib.hid hj
                   clear hj HNO HRO HRI HBD HFO HGK HOV HOV2 HF4 HRW HJR
                   generalize all[i].from_ = fi at *
                   generalize all[i].to_ = ti at *
                   generalize all[k].from_ = fk at *
                   generalize all[k].to_ = tk at *
                   generalize all[i].l = li at *
                   generalize all[i].r = ri at *
                   generalize all[k].l = lk at *
                   generalize all[k].r = rk at *
                   have HM1 : Hid (jr.from_ = (if fi ≤ fk then fi else fk)) := by show _ = _; rw [HJ.out.1]; split <;> omega
                   have HM2 : Hid (jr.to_ = (if tk ≤ ti then ti else tk)) := by show _ = _; rw [HJ.out.2.1]; split <;> omega
                   refine wp_region_held_drew (S := fun w' => w'.cell? ⟨bb, i * 4, none⟩ = some (.int .i64 fi) ∧ w'.cell? ⟨bb, i * 4 + 1, none⟩ = some (.int .i64 ti) ∧ w'.cell? ⟨bb, i * 4 + 2, none⟩ = some (.bool li) ∧ w'.cell? ⟨bb, i * 4 + 3, none⟩ = some (.bool ri) ∧ w'.cell? ⟨bb, k * 4, none⟩ = some (.int .i64 fk) ∧ w'.cell? ⟨bb, k * 4 + 1, none⟩ = some (.int .i64 tk) ∧ w'.cell? ⟨bb, k * 4 + 2, none⟩ = some (.bool lk) ∧ w'.cell? ⟨bb, k * 4 + 3, none⟩ = some (.bool rk)) (by kernel_rfl) (by go_keep) (fun hHeld => ?_)
                   refine wpAnyH_take (i := 0) (oi := _) (v := ?_) (take_op rfl) (by kernel_rfl) (by kernel_rfl) (by kernel_rfl) (fun _ _ _ h => h) (Or.inl ⟨by rfl, ?_⟩) (by assumption) ?_
                   rotate_left
                   · (intro w hSw; (try dsimp only at hSw); go_simp; try with_reducible rfl)
                   try simp only [Act.put, List.setIfInBounds_toArray, List.set_cons_zero, List.set_cons_succ]
                   refine wpAnyH_take (i := 1) (oi := _) (v := ?_) (take_op rfl) (by kernel_rfl) (by kernel_rfl) (by kernel_rfl) (fun _ _ _ h => h) (Or.inl ⟨by rfl, ?_⟩) (by assumption) ?_
                   rotate_left
                   · (intro w hSw; (try dsimp only at hSw); go_simp; try with_reducible rfl)
                   try simp only [Act.put, List.setIfInBounds_toArray, List.set_cons_zero, List.set_cons_succ]
                   refine wpAnyH_take (i := 2) (oi := _) (v := ?_) (take_op rfl) (by kernel_rfl) (by kernel_rfl) (by kernel_rfl) (fun _ _ _ h => h) (Or.inl ⟨by rfl, ?_⟩) (by assumption) ?_
                   rotate_left
                   · (intro w hSw; (try dsimp only at hSw); go_simp; try with_reducible rfl)
                   try simp only [Act.put, List.setIfInBounds_toArray, List.set_cons_zero, List.set_cons_succ]
                   refine wpAnyH_take (i := 3) (oi := _) (v := ?_) (take_op rfl) (by kernel_rfl) (by kernel_rfl) (by kernel_rfl) (fun _ _ _ h => h) (Or.inl ⟨by rfl, ?_⟩) (by assumption) ?_
                   rotate_left
                   · (intro w hSw; (try dsimp only at hSw); go_simp; try with_reducible rfl)
                   try simp only [Act.put, List.setIfInBounds_toArray, List.set_cons_zero, List.set_cons_succ]
                   refine wpAnyH_take (i := 4) (oi := _) (v := ?_) (take_op rfl) (by kernel_rfl) (by kernel_rfl) (by kernel_rfl) (fun _ _ _ h => h) (Or.inl ⟨by rfl, ?_⟩) (by assumption) ?_
                   rotate_left
                   · (intro w hSw; (try dsimp only at hSw); go_simp; try with_reducible rfl)
                   try simp only [Act.put, List.setIfInBounds_toArray, List.set_cons_zero, List.set_cons_succ]
                   refine wpAnyH_take (i := 5) (oi := _) (v := ?_) (take_op rfl) (by kernel_rfl) (by kernel_rfl) (by kernel_rfl) (fun _ _ _ h => h) (Or.inl ⟨by rfl, ?_⟩) (by assumption) ?_
                   rotate_left
                   · (intro w hSw; (try dsimp only at hSw); go_simp; try with_reducible rfl)
                   try simp only [Act.put, List.setIfInBounds_toArray, List.set_cons_zero, List.set_cons_succ]
                   refine wpAnyH_take (i := 6) (oi := _) (v := ?_) (take_op rfl) (by kernel_rfl) (by kernel_rfl) (by kernel_rfl) (fun _ _ _ h => h) (Or.inl ⟨by rfl, ?_⟩) (by assumption) ?_
                   rotate_left
                   · (intro w hSw; (try dsimp only at hSw); go_simp; try with_reducible rfl)
                   try simp only [Act.put, List.setIfInBounds_toArray, List.set_cons_zero, List.set_cons_succ]
                   refine wpAnyH_take (i := 7) (oi := _) (v := ?_) (take_op rfl) (by kernel_rfl) (by kernel_rfl) (by kernel_rfl) (fun _ _ _ h => h) (Or.inl ⟨by rfl, ?_⟩) (by assumption) ?_
                   rotate_left
                   · (intro w hSw; (try dsimp only at hSw); go_simp; try with_reducible rfl)
                   try simp only [Act.put, List.setIfInBounds_toArray, List.set_cons_zero, List.set_cons_succ]
                   refine wpAnyH_take (i := 8) (oi := _) (v := ?_) (take_op rfl) (by kernel_rfl) (by kernel_rfl) (by kernel_rfl) (fun _ _ _ h => h) (Or.inl ⟨by rfl, ?_⟩) (by assumption) ?_
                   rotate_left
                   · (intro w hSw; (try dsimp only at hSw); go_simp; try with_reducible rfl)
                   try simp only [Act.put, List.setIfInBounds_toArray, List.set_cons_zero, List.set_cons_succ]
                   refine wpAnyH_take (i := 9) (oi := _) (v := ?_) (take_op rfl) (by kernel_rfl) (by kernel_rfl) (by kernel_rfl) (fun _ _ _ h => h) (Or.inl ⟨by rfl, ?_⟩) (by assumption) ?_
                   rotate_left
                   · (intro w hSw; (try dsimp only at hSw); go_simp; try with_reducible rfl)
                   try simp only [Act.put, List.setIfInBounds_toArray, List.set_cons_zero, List.set_cons_succ]
                   refine wpAnyH_take (i := 10) (oi := _) (v := .int .i64 jr.from_) (take_op rfl) (by kernel_rfl) (by kernel_rfl) (by kernel_rfl) (fun _ _ _ h => h) (Or.inl ⟨by rfl, ?_⟩) (by assumption) ?_
                   · intro w hSw
                     have em := HM1.out
                     rw [em]
                     clear em hSw hHeld i0 i1 i2 i3 k0 k1 k2 k3
                     by_cases hcc : fi ≤ fk
                     · rw [if_pos hcc]; go_simp; try (intro h; omega)
                     · rw [if_neg hcc]
                       have hcc2 : fk ≤ fi := by omega
                       go_simp
                       try (intro h; omega)
                   try simp only [Act.put, List.setIfInBounds_toArray, List.set_cons_zero, List.set_cons_succ]
                   refine wpAnyH_take (i := 11) (oi := _) (v := ?_) (take_op rfl) (by kernel_rfl) (by kernel_rfl) (by kernel_rfl) (fun _ _ _ h => h) (Or.inl ⟨by rfl, ?_⟩) (by assumption) ?_
                   rotate_left
                   · (intro w hSw; (try dsimp only at hSw); go_simp; try with_reducible rfl)
                   try simp only [Act.put, List.setIfInBounds_toArray, List.set_cons_zero, List.set_cons_succ]
                   refine wpAnyH_take (i := 12) (oi := _) (v := ?_) (take_op rfl) (by kernel_rfl) (by kernel_rfl) (by kernel_rfl) (fun _ _ _ h => h) (Or.inl ⟨by rfl, ?_⟩) (by assumption) ?_
                   rotate_left
                   · (intro w hSw; (try dsimp only at hSw); go_simp; try with_reducible rfl)
                   try simp only [Act.put, List.setIfInBounds_toArray, List.set_cons_zero, List.set_cons_succ]
                   refine wpAnyH_take (i := 13) (oi := _) (v := ?_) (take_op rfl) (by kernel_rfl) (by kernel_rfl) (by kernel_rfl) (fun _ _ _ h => h) (Or.inl ⟨by rfl, ?_⟩) (by assumption) ?_
                   rotate_left
                   · (intro w hSw; (try dsimp only at hSw); go_simp; try with_reducible rfl)
                   try simp only [Act.put, List.setIfInBounds_toArray, List.set_cons_zero, List.set_cons_succ]
                   refine wpAnyH_take (i := 14) (oi := _) (v := ?_) (take_op rfl) (by kernel_rfl) (by kernel_rfl) (by kernel_rfl) (fun _ _ _ h => h) (Or.inl ⟨by rfl, ?_⟩) (by assumption) ?_
                   rotate_left
                   · (intro w hSw; (try dsimp only at hSw); go_simp; try with_reducible rfl)
                   try simp only [Act.put, List.setIfInBounds_toArray, List.set_cons_zero, List.set_cons_succ]
                   refine wpAnyH_take (i := 15) (oi := _) (v := ?_) (take_op rfl) (by kernel_rfl) (by kernel_rfl) (by kernel_rfl) (fun _ _ _ h => h) (Or.inl ⟨by rfl, ?_⟩) (by assumption) ?_
                   rotate_left
                   · (intro w hSw; (try dsimp only at hSw); go_simp; try with_reducible rfl)
                   try simp only [Act.put, List.setIfInBounds_toArray, List.set_cons_zero, List.set_cons_succ]
                   refine wpAnyH_take (i := 16) (oi := _) (v := ?_) (take_op rfl) (by kernel_rfl) (by kernel_rfl) (by kernel_rfl) (fun _ _ _ h => h) (Or.inl ⟨by rfl, ?_⟩) (by assumption) ?_
                   rotate_left
                   · (intro w hSw; (try dsimp only at hSw); go_simp; try with_reducible rfl)
                   try simp only [Act.put, List.setIfInBounds_toArray, List.set_cons_zero, List.set_cons_succ]
                   refine wpAnyH_take (i := 17) (oi := _) (v := ?_) (take_op rfl) (by kernel_rfl) (by kernel_rfl) (by kernel_rfl) (fun _ _ _ h => h) (Or.inl ⟨by rfl, ?_⟩) (by assumption) ?_
                   rotate_left
                   · (intro w hSw; (try dsimp only at hSw); go_simp; try with_reducible rfl)
                   try simp only [Act.put, List.setIfInBounds_toArray, List.set_cons_zero, List.set_cons_succ]
                   refine wpAnyH_take (i := 18) (oi := _) (v := ?_) (take_op rfl) (by kernel_rfl) (by kernel_rfl) (by kernel_rfl) (fun _ _ _ h => h) (Or.inl ⟨by rfl, ?_⟩) (by assumption) ?_
                   rotate_left
                   · (intro w hSw; (try dsimp only at hSw); go_simp; try with_reducible rfl)
                   try simp only [Act.put, List.setIfInBounds_toArray, List.set_cons_zero, List.set_cons_succ]
                   refine wpAnyH_take (i := 19) (oi := _) (v := ?_) (take_op rfl) (by kernel_rfl) (by kernel_rfl) (by kernel_rfl) (fun _ _ _ h => h) (Or.inl ⟨by rfl, ?_⟩) (by assumption) ?_
                   rotate_left
                   · (intro w hSw; (try dsimp only at hSw); go_simp; try with_reducible rfl)
                   try simp only [Act.put, List.setIfInBounds_toArray, List.set_cons_zero, List.set_cons_succ]
                   refine wpAnyH_take (i := 20) (oi := _) (v := ?_) (take_op rfl) (by kernel_rfl) (by kernel_rfl) (by kernel_rfl) (fun _ _ _ h => h) (Or.inl ⟨by rfl, ?_⟩) (by assumption) ?_
                   rotate_left
                   · (intro w hSw; (try dsimp only at hSw); go_simp; try with_reducible rfl)
                   try simp only [Act.put, List.setIfInBounds_toArray, List.set_cons_zero, List.set_cons_succ]
                   refine wpAnyH_take (i := 21) (oi := _) (v := .int .i64 jr.to_) (take_op rfl) (by kernel_rfl) (by kernel_rfl) (by kernel_rfl) (fun _ _ _ h => h) (Or.inl ⟨by rfl, ?_⟩) (by assumption) ?_
                   · intro w hSw
                     have em := HM2.out
                     rw [em]
                     clear em hSw hHeld i0 i1 i2 i3 k0 k1 k2 k3
                     by_cases hcc : tk ≤ ti
                     · rw [if_pos hcc]; go_simp; try (intro h; omega)
                     · rw [if_neg hcc]
                       have hcc2 : ti ≤ tk := by omega
                       go_simp
                       try (intro h; omega)
                   try simp only [Act.put, List.setIfInBounds_toArray, List.set_cons_zero, List.set_cons_succ]
                   refine wpAnyH_take (i := 22) (oi := _) (v := ?_) (take_op rfl) (by kernel_rfl) (by kernel_rfl) (by kernel_rfl) (fun _ _ _ h => h) (Or.inl ⟨by rfl, ?_⟩) (by assumption) ?_
                   rotate_left
                   · (intro w hSw; (try dsimp only at hSw); go_simp; try with_reducible rfl)
                   try simp only [Act.put, List.setIfInBounds_toArray, List.set_cons_zero, List.set_cons_succ]
                   refine wpAnyH_take (i := 23) (oi := _) (v := ?_) (take_op rfl) (by kernel_rfl) (by kernel_rfl) (by kernel_rfl) (fun _ _ _ h => h) (Or.inl ⟨by rfl, ?_⟩) (by assumption) ?_
                   rotate_left
                   · (intro w hSw; (try dsimp only at hSw); go_simp; try with_reducible rfl)
                   try simp only [Act.put, List.setIfInBounds_toArray, List.set_cons_zero, List.set_cons_succ]
                   refine wpAnyH_take (i := 24) (oi := _) (v := ?_) (take_op rfl) (by kernel_rfl) (by kernel_rfl) (by kernel_rfl) (fun _ _ _ h => h) (Or.inl ⟨by rfl, ?_⟩) (by assumption) ?_
                   rotate_left
                   · (intro w hSw; (try dsimp only at hSw); go_simp; try with_reducible rfl)
                   try simp only [Act.put, List.setIfInBounds_toArray, List.set_cons_zero, List.set_cons_succ]
                   refine wpAnyH_take (i := 25) (oi := _) (v := ?_) (take_op rfl) (by kernel_rfl) (by kernel_rfl) (by kernel_rfl) (fun _ _ _ h => h) (Or.inl ⟨by rfl, ?_⟩) (by assumption) ?_
                   rotate_left
                   · (intro w hSw; (try dsimp only at hSw); go_simp; try with_reducible rfl)
                   try simp only [Act.put, List.setIfInBounds_toArray, List.set_cons_zero, List.set_cons_succ]
                   refine wpAnyH_take (i := 26) (oi := _) (v := ?_) (take_op rfl) (by kernel_rfl) (by kernel_rfl) (by kernel_rfl) (fun _ _ _ h => h) (Or.inl ⟨by rfl, ?_⟩) (by assumption) ?_
                   rotate_left
                   · (intro w hSw; (try dsimp only at hSw); go_simp; try with_reducible rfl)
                   try simp only [Act.put, List.setIfInBounds_toArray, List.set_cons_zero, List.set_cons_succ]
                   refine wpAnyH_take (i := 27) (oi := _) (v := ?_) (take_op rfl) (by kernel_rfl) (by kernel_rfl) (by kernel_rfl) (fun _ _ _ h => h) (Or.inl ⟨by rfl, ?_⟩) (by assumption) ?_
                   rotate_left
                   · (intro w hSw; (try dsimp only at hSw); go_simp; try with_reducible rfl)
                   try simp only [Act.put, List.setIfInBounds_toArray, List.set_cons_zero, List.set_cons_succ]
                   cases li with
                   | true =>
                    refine wpAnyH_take (i := 28) (oi := _) (v := undef) (take_op rfl) (by kernel_rfl) (by kernel_rfl) (by kernel_rfl) (fun _ _ _ h => h) (Or.inr ⟨by rfl, rfl⟩) (by assumption) ?_
                    try simp only [Act.put, List.setIfInBounds_toArray, List.set_cons_zero, List.set_cons_succ]
                    refine wpAnyH_take (i := 29) (oi := _) (v := undef) (take_op rfl) (by kernel_rfl) (by kernel_rfl) (by kernel_rfl) (fun _ _ _ h => h) (Or.inr ⟨by rfl, rfl⟩) (by assumption) ?_
                    try simp only [Act.put, List.setIfInBounds_toArray, List.set_cons_zero, List.set_cons_succ]
                    refine wpAnyH_take (i := 30) (oi := _) (v := undef) (take_op rfl) (by kernel_rfl) (by kernel_rfl) (by kernel_rfl) (fun _ _ _ h => h) (Or.inr ⟨by rfl, rfl⟩) (by assumption) ?_
                    try simp only [Act.put, List.setIfInBounds_toArray, List.set_cons_zero, List.set_cons_succ]
                    refine wpAnyH_take (i := 31) (oi := _) (v := undef) (take_op rfl) (by kernel_rfl) (by kernel_rfl) (by kernel_rfl) (fun _ _ _ h => h) (Or.inr ⟨by rfl, rfl⟩) (by assumption) ?_
                    try simp only [Act.put, List.setIfInBounds_toArray, List.set_cons_zero, List.set_cons_succ]
                    refine wpAnyH_take (i := 32) (oi := _) (v := undef) (take_op rfl) (by kernel_rfl) (by kernel_rfl) (by kernel_rfl) (fun _ _ _ h => h) (Or.inr ⟨by rfl, rfl⟩) (by assumption) ?_
                    try simp only [Act.put, List.setIfInBounds_toArray, List.set_cons_zero, List.set_cons_succ]
                    refine wpAnyH_take (i := 33) (oi := _) (v := ?_) (take_op rfl) (by kernel_rfl) (by kernel_rfl) (by kernel_rfl) (fun _ _ _ h => h) (Or.inl ⟨by rfl, ?_⟩) (by assumption) ?_
                    rotate_left
                    · (intro w hSw; (try dsimp only at hSw); go_simp; try with_reducible rfl)
                    try simp only [Act.put, List.setIfInBounds_toArray, List.set_cons_zero, List.set_cons_succ]
                    refine wpAnyH_take (i := 34) (oi := _) (v := ?_) (take_op rfl) (by kernel_rfl) (by kernel_rfl) (by kernel_rfl) (fun _ _ _ h => h) (Or.inl ⟨by rfl, ?_⟩) (by assumption) ?_
                    rotate_left
                    · (intro w hSw; (try dsimp only at hSw); go_simp; try with_reducible rfl)
                    try simp only [Act.put, List.setIfInBounds_toArray, List.set_cons_zero, List.set_cons_succ]
                    refine wpAnyH_take (i := 35) (oi := _) (v := ?_) (take_op rfl) (by kernel_rfl) (by kernel_rfl) (by kernel_rfl) (fun _ _ _ h => h) (Or.inl ⟨by rfl, ?_⟩) (by assumption) ?_
                    rotate_left
                    · (intro w hSw; (try dsimp only at hSw); go_simp; try with_reducible rfl)
                    try simp only [Act.put, List.setIfInBounds_toArray, List.set_cons_zero, List.set_cons_succ]
                    refine wpAnyH_take (i := 36) (oi := _) (v := ?_) (take_op rfl) (by kernel_rfl) (by kernel_rfl) (by kernel_rfl) (fun _ _ _ h => h) (Or.inl ⟨by rfl, ?_⟩) (by assumption) ?_
                    rotate_left
                    · (intro w hSw; (try dsimp only at hSw); go_simp; try with_reducible rfl)
                    try simp only [Act.put, List.setIfInBounds_toArray, List.set_cons_zero, List.set_cons_succ]
                    refine wpAnyH_take (i := 37) (oi := _) (v := ?_) (take_op rfl) (by kernel_rfl) (by kernel_rfl) (by kernel_rfl) (fun _ _ _ h => h) (Or.inl ⟨by rfl, ?_⟩) (by assumption) ?_
                    rotate_left
                    · (intro w hSw; (try dsimp only at hSw); go_simp; try with_reducible rfl)
                    try simp only [Act.put, List.setIfInBounds_toArray, List.set_cons_zero, List.set_cons_succ]
                    refine wpAnyH_take (i := 38) (oi := _) (v := ?_) (take_op rfl) (by kernel_rfl) (by kernel_rfl) (by kernel_rfl) (fun _ _ _ h => h) (Or.inl ⟨by rfl, ?_⟩) (by assumption) ?_
                    rotate_left
                    · (intro w hSw; (try dsimp only at hSw); go_simp; try with_reducible rfl)
                    try simp only [Act.put, List.setIfInBounds_toArray, List.set_cons_zero, List.set_cons_succ]
                    refine wpAnyH_take (i := 39) (oi := _) (v := ?_) (take_op rfl) (by kernel_rfl) (by kernel_rfl) (by kernel_rfl) (fun _ _ _ h => h) (Or.inl ⟨by rfl, ?_⟩) (by assumption) ?_
                    rotate_left
                    · (intro w hSw; (try dsimp only at hSw); go_simp; try with_reducible rfl)
                    try simp only [Act.put, List.setIfInBounds_toArray, List.set_cons_zero, List.set_cons_succ]
                    cases ri with
                    | true =>
                     refine wpAnyH_take (i := 40) (oi := _) (v := undef) (take_op rfl) (by kernel_rfl) (by kernel_rfl) (by kernel_rfl) (fun _ _ _ h => h) (Or.inr ⟨by rfl, rfl⟩) (by assumption) ?_
                     try simp only [Act.put, List.setIfInBounds_toArray, List.set_cons_zero, List.set_cons_succ]
                     refine wpAnyH_take (i := 41) (oi := _) (v := undef) (take_op rfl) (by kernel_rfl) (by kernel_rfl) (by kernel_rfl) (fun _ _ _ h => h) (Or.inr ⟨by rfl, rfl⟩) (by assumption) ?_
                     try simp only [Act.put, List.setIfInBounds_toArray, List.set_cons_zero, List.set_cons_succ]
                     refine wpAnyH_take (i := 42) (oi := _) (v := undef) (take_op rfl) (by kernel_rfl) (by kernel_rfl) (by kernel_rfl) (fun _ _ _ h => h) (Or.inr ⟨by rfl, rfl⟩) (by assumption) ?_
                     try simp only [Act.put, List.setIfInBounds_toArray, List.set_cons_zero, List.set_cons_succ]
                     refine wpAnyH_take (i := 43) (oi := _) (v := undef) (take_op rfl) (by kernel_rfl) (by kernel_rfl) (by kernel_rfl) (fun _ _ _ h => h) (Or.inr ⟨by rfl, rfl⟩) (by assumption) ?_
                     try simp only [Act.put, List.setIfInBounds_toArray, List.set_cons_zero, List.set_cons_succ]
                     refine wpAnyH_take (i := 44) (oi := _) (v := undef) (take_op rfl) (by kernel_rfl) (by kernel_rfl) (by kernel_rfl) (fun _ _ _ h => h) (Or.inr ⟨by rfl, rfl⟩) (by assumption) ?_
                     try simp only [Act.put, List.setIfInBounds_toArray, List.set_cons_zero, List.set_cons_succ]
                     refine wpAnyH_take (i := 45) (oi := _) (v := ?_) (take_op rfl) (by kernel_rfl) (by kernel_rfl) (by kernel_rfl) (fun _ _ _ h => h) (Or.inl ⟨by rfl, ?_⟩) (by assumption) ?_
                     rotate_left
                     · (intro w hSw; (try dsimp only at hSw); go_simp; try with_reducible rfl)
                     try simp only [Act.put, List.setIfInBounds_toArray, List.set_cons_zero, List.set_cons_succ]
                     refine wpAnyH_take (i := 46) (oi := _) (v := ?_) (take_op rfl) (by kernel_rfl) (by kernel_rfl) (by kernel_rfl) (fun _ _ _ h => h) (Or.inl ⟨by rfl, ?_⟩) (by assumption) ?_
                     rotate_left
                     · (intro w hSw; (try dsimp only at hSw); go_simp; try with_reducible rfl)
                     try simp only [Act.put, List.setIfInBounds_toArray, List.set_cons_zero, List.set_cons_succ]
                     have e5 : jr.l = true ∧ jr.r = true := ⟨by rw [HJ.out.2.2.1]; rfl, by rw [HJ.out.2.2.2]; rfl⟩
                     have HE := Lib.hid e5
                     clear e5 HJ
                     refine wpAnyH_ready (rs := [47]) (by kernel_rfl) (by simp) ?_
                     refine AllReadyH.cons (o := _) (take_op rfl) (fun K hK => ?_) AllReadyH.nil
                     go_simp
                     refine hK.out _ _ (by go_keep) (fun hHeld => ?_)
                     clear hK K
                     try simp only [Act.put, List.setIfInBounds_toArray, List.set_cons_zero, List.set_cons_succ]
                     refine wpAnyH_ready (rs := [48]) (by kernel_rfl) (by simp) ?_
                     refine AllReadyH.cons (o := _) (take_op rfl) (fun K hK => ?_) AllReadyH.nil
                     go_simp
                     refine hK.out _ _ (by go_keep) (fun hHeld => ?_)
                     clear hK K
                     try simp only [Act.put, List.setIfInBounds_toArray, List.set_cons_zero, List.set_cons_succ]
                     refine wpAnyH_done (by kernel_rfl) ?_ _
                     go_wp2_with fail
                     go_meet
                     exact ⟨_, rfl, by repeat (first | exact Fr0.refl _ | refine Fr0.alloc ?_ _ | refine Fr0.drew ?_ | refine Fr0.drewN ?_ _ | refine Fr0.setCell ?_ _ _ (by simp; try omega)), Nat.le_refl _, by rw [HE.out.1, HE.out.2]; exact alloc_at _ _ _ rfl⟩
                    | false =>
                     refine wpAnyH_take (i := 40) (oi := _) (v := ?_) (take_op rfl) (by kernel_rfl) (by kernel_rfl) (by kernel_rfl) (fun _ _ _ h => h) (Or.inl ⟨by rfl, ?_⟩) (by assumption) ?_
                     rotate_left
                     · (intro w hSw; (try dsimp only at hSw); go_simp; try with_reducible rfl)
                     try simp only [Act.put, List.setIfInBounds_toArray, List.set_cons_zero, List.set_cons_succ]
                     refine wpAnyH_take (i := 41) (oi := _) (v := ?_) (take_op rfl) (by kernel_rfl) (by kernel_rfl) (by kernel_rfl) (fun _ _ _ h => h) (Or.inl ⟨by rfl, ?_⟩) (by assumption) ?_
                     rotate_left
                     · (intro w hSw; (try dsimp only at hSw); go_simp; try with_reducible rfl)
                     try simp only [Act.put, List.setIfInBounds_toArray, List.set_cons_zero, List.set_cons_succ]
                     refine wpAnyH_take (i := 42) (oi := _) (v := ?_) (take_op rfl) (by kernel_rfl) (by kernel_rfl) (by kernel_rfl) (fun _ _ _ h => h) (Or.inl ⟨by rfl, ?_⟩) (by assumption) ?_
                     rotate_left
                     · (intro w hSw; (try dsimp only at hSw); go_simp; try with_reducible rfl)
                     try simp only [Act.put, List.setIfInBounds_toArray, List.set_cons_zero, List.set_cons_succ]
                     refine wpAnyH_take (i := 43) (oi := _) (v := ?_) (take_op rfl) (by kernel_rfl) (by kernel_rfl) (by kernel_rfl) (fun _ _ _ h => h) (Or.inl ⟨by rfl, ?_⟩) (by assumption) ?_
                     rotate_left
                     · (intro w hSw; (try dsimp only at hSw); go_simp; try with_reducible rfl)
                     try simp only [Act.put, List.setIfInBounds_toArray, List.set_cons_zero, List.set_cons_succ]
                     refine wpAnyH_take (i := 44) (oi := _) (v := ?_) (take_op rfl) (by kernel_rfl) (by kernel_rfl) (by kernel_rfl) (fun _ _ _ h => h) (Or.inl ⟨by rfl, ?_⟩) (by assumption) ?_
                     rotate_left
                     · (intro w hSw; (try dsimp only at hSw); go_simp; try with_reducible rfl)
                     try simp only [Act.put, List.setIfInBounds_toArray, List.set_cons_zero, List.set_cons_succ]
                     refine wpAnyH_take (i := 45) (oi := _) (v := ?_) (take_op rfl) (by kernel_rfl) (by kernel_rfl) (by kernel_rfl) (fun _ _ _ h => h) (Or.inl ⟨by rfl, ?_⟩) (by assumption) ?_
                     rotate_left
                     · (intro w hSw; (try dsimp only at hSw); go_simp; try with_reducible rfl)
                     try simp only [Act.put, List.setIfInBounds_toArray, List.set_cons_zero, List.set_cons_succ]
                     refine wpAnyH_take (i := 46) (oi := _) (v := ?_) (take_op rfl) (by kernel_rfl) (by kernel_rfl) (by kernel_rfl) (fun _ _ _ h => h) (Or.inl ⟨by rfl, ?_⟩) (by assumption) ?_
                     rotate_left
                     · (intro w hSw; (try dsimp only at hSw); go_simp; try with_reducible rfl)
                     try simp only [Act.put, List.setIfInBounds_toArray, List.set_cons_zero, List.set_cons_succ]
                     have e5 : jr.l = true ∧ jr.r = rk := ⟨by rw [HJ.out.2.2.1]; rfl, by rw [HJ.out.2.2.2]; rfl⟩
                     have HE := Lib.hid e5
                     clear e5 HJ
                     refine wpAnyH_ready (rs := [47]) (by kernel_rfl) (by simp) ?_
                     refine AllReadyH.cons (o := _) (take_op rfl) (fun K hK => ?_) AllReadyH.nil
                     go_simp
                     refine hK.out _ _ (by go_keep) (fun hHeld => ?_)
                     clear hK K
                     try simp only [Act.put, List.setIfInBounds_toArray, List.set_cons_zero, List.set_cons_succ]
                     refine wpAnyH_ready (rs := [48]) (by kernel_rfl) (by simp) ?_
                     refine AllReadyH.cons (o := _) (take_op rfl) (fun K hK => ?_) AllReadyH.nil
                     go_simp
                     refine hK.out _ _ (by go_keep) (fun hHeld => ?_)
                     clear hK K
                     try simp only [Act.put, List.setIfInBounds_toArray, List.set_cons_zero, List.set_cons_succ]
                     refine wpAnyH_done (by kernel_rfl) ?_ _
                     go_wp2_with fail
                     go_meet
                     exact ⟨_, rfl, by repeat (first | exact Fr0.refl _ | refine Fr0.alloc ?_ _ | refine Fr0.drew ?_ | refine Fr0.drewN ?_ _ | refine Fr0.setCell ?_ _ _ (by simp; try omega)), Nat.le_refl _, by rw [HE.out.1, HE.out.2]; exact alloc_at _ _ _ rfl⟩
                   | false =>
                    refine wpAnyH_take (i := 28) (oi := _) (v := ?_) (take_op rfl) (by kernel_rfl) (by kernel_rfl) (by kernel_rfl) (fun _ _ _ h => h) (Or.inl ⟨by rfl, ?_⟩) (by assumption) ?_
                    rotate_left
                    · (intro w hSw; (try dsimp only at hSw); go_simp; try with_reducible rfl)
                    try simp only [Act.put, List.setIfInBounds_toArray, List.set_cons_zero, List.set_cons_succ]
                    refine wpAnyH_take (i := 29) (oi := _) (v := ?_) (take_op rfl) (by kernel_rfl) (by kernel_rfl) (by kernel_rfl) (fun _ _ _ h => h) (Or.inl ⟨by rfl, ?_⟩) (by assumption) ?_
                    rotate_left
                    · (intro w hSw; (try dsimp only at hSw); go_simp; try with_reducible rfl)
                    try simp only [Act.put, List.setIfInBounds_toArray, List.set_cons_zero, List.set_cons_succ]
                    refine wpAnyH_take (i := 30) (oi := _) (v := ?_) (take_op rfl) (by kernel_rfl) (by kernel_rfl) (by kernel_rfl) (fun _ _ _ h => h) (Or.inl ⟨by rfl, ?_⟩) (by assumption) ?_
                    rotate_left
                    · (intro w hSw; (try dsimp only at hSw); go_simp; try with_reducible rfl)
                    try simp only [Act.put, List.setIfInBounds_toArray, List.set_cons_zero, List.set_cons_succ]
                    refine wpAnyH_take (i := 31) (oi := _) (v := ?_) (take_op rfl) (by kernel_rfl) (by kernel_rfl) (by kernel_rfl) (fun _ _ _ h => h) (Or.inl ⟨by rfl, ?_⟩) (by assumption) ?_
                    rotate_left
                    · (intro w hSw; (try dsimp only at hSw); go_simp; try with_reducible rfl)
                    try simp only [Act.put, List.setIfInBounds_toArray, List.set_cons_zero, List.set_cons_succ]
                    refine wpAnyH_take (i := 32) (oi := _) (v := ?_) (take_op rfl) (by kernel_rfl) (by kernel_rfl) (by kernel_rfl) (fun _ _ _ h => h) (Or.inl ⟨by rfl, ?_⟩) (by assumption) ?_
                    rotate_left
                    · (intro w hSw; (try dsimp only at hSw); go_simp; try with_reducible rfl)
                    try simp only [Act.put, List.setIfInBounds_toArray, List.set_cons_zero, List.set_cons_succ]
                    refine wpAnyH_take (i := 33) (oi := _) (v := ?_) (take_op rfl) (by kernel_rfl) (by kernel_rfl) (by kernel_rfl) (fun _ _ _ h => h) (Or.inl ⟨by rfl, ?_⟩) (by assumption) ?_
                    rotate_left
                    · (intro w hSw; (try dsimp only at hSw); go_simp; try with_reducible rfl)
                    try simp only [Act.put, List.setIfInBounds_toArray, List.set_cons_zero, List.set_cons_succ]
                    refine wpAnyH_take (i := 34) (oi := _) (v := ?_) (take_op rfl) (by kernel_rfl) (by kernel_rfl) (by kernel_rfl) (fun _ _ _ h => h) (Or.inl ⟨by rfl, ?_⟩) (by assumption) ?_
                    rotate_left
                    · (intro w hSw; (try dsimp only at hSw); go_simp; try with_reducible rfl)
                    try simp only [Act.put, List.setIfInBounds_toArray, List.set_cons_zero, List.set_cons_succ]
                    refine wpAnyH_take (i := 35) (oi := _) (v := ?_) (take_op rfl) (by kernel_rfl) (by kernel_rfl) (by kernel_rfl) (fun _ _ _ h => h) (Or.inl ⟨by rfl, ?_⟩) (by assumption) ?_
                    rotate_left
                    · (intro w hSw; (try dsimp only at hSw); go_simp; try with_reducible rfl)
                    try simp only [Act.put, List.setIfInBounds_toArray, List.set_cons_zero, List.set_cons_succ]
                    refine wpAnyH_take (i := 36) (oi := _) (v := ?_) (take_op rfl) (by kernel_rfl) (by kernel_rfl) (by kernel_rfl) (fun _ _ _ h => h) (Or.inl ⟨by rfl, ?_⟩) (by assumption) ?_
                    rotate_left
                    · (intro w hSw; (try dsimp only at hSw); go_simp; try with_reducible rfl)
                    try simp only [Act.put, List.setIfInBounds_toArray, List.set_cons_zero, List.set_cons_succ]
                    refine wpAnyH_take (i := 37) (oi := _) (v := ?_) (take_op rfl) (by kernel_rfl) (by kernel_rfl) (by kernel_rfl) (fun _ _ _ h => h) (Or.inl ⟨by rfl, ?_⟩) (by assumption) ?_
                    rotate_left
                    · (intro w hSw; (try dsimp only at hSw); go_simp; try with_reducible rfl)
                    try simp only [Act.put, List.setIfInBounds_toArray, List.set_cons_zero, List.set_cons_succ]
                    refine wpAnyH_take (i := 38) (oi := _) (v := ?_) (take_op rfl) (by kernel_rfl) (by kernel_rfl) (by kernel_rfl) (fun _ _ _ h => h) (Or.inl ⟨by rfl, ?_⟩) (by assumption) ?_
                    rotate_left
                    · (intro w hSw; (try dsimp only at hSw); go_simp; try with_reducible rfl)
                    try simp only [Act.put, List.setIfInBounds_toArray, List.set_cons_zero, List.set_cons_succ]
                    refine wpAnyH_take (i := 39) (oi := _) (v := ?_) (take_op rfl) (by kernel_rfl) (by kernel_rfl) (by kernel_rfl) (fun _ _ _ h => h) (Or.inl ⟨by rfl, ?_⟩) (by assumption) ?_
                    rotate_left
                    · (intro w hSw; (try dsimp only at hSw); go_simp; try with_reducible rfl)
                    try simp only [Act.put, List.setIfInBounds_toArray, List.set_cons_zero, List.set_cons_succ]
                    cases ri with
                    | true =>
                     refine wpAnyH_take (i := 40) (oi := _) (v := undef) (take_op rfl) (by kernel_rfl) (by kernel_rfl) (by kernel_rfl) (fun _ _ _ h => h) (Or.inr ⟨by rfl, rfl⟩) (by assumption) ?_
                     try simp only [Act.put, List.setIfInBounds_toArray, List.set_cons_zero, List.set_cons_succ]
                     refine wpAnyH_take (i := 41) (oi := _) (v := undef) (take_op rfl) (by kernel_rfl) (by kernel_rfl) (by kernel_rfl) (fun _ _ _ h => h) (Or.inr ⟨by rfl, rfl⟩) (by assumption) ?_
                     try simp only [Act.put, List.setIfInBounds_toArray, List.set_cons_zero, List.set_cons_succ]
                     refine wpAnyH_take (i := 42) (oi := _) (v := undef) (take_op rfl) (by kernel_rfl) (by kernel_rfl) (by kernel_rfl) (fun _ _ _ h => h) (Or.inr ⟨by rfl, rfl⟩) (by assumption) ?_
                     try simp only [Act.put, List.setIfInBounds_toArray, List.set_cons_zero, List.set_cons_succ]
                     refine wpAnyH_take (i := 43) (oi := _) (v := undef) (take_op rfl) (by kernel_rfl) (by kernel_rfl) (by kernel_rfl) (fun _ _ _ h => h) (Or.inr ⟨by rfl, rfl⟩) (by assumption) ?_
                     try simp only [Act.put, List.setIfInBounds_toArray, List.set_cons_zero, List.set_cons_succ]
                     refine wpAnyH_take (i := 44) (oi := _) (v := undef) (take_op rfl) (by kernel_rfl) (by kernel_rfl) (by kernel_rfl) (fun _ _ _ h => h) (Or.inr ⟨by rfl, rfl⟩) (by assumption) ?_
                     try simp only [Act.put, List.setIfInBounds_toArray, List.set_cons_zero, List.set_cons_succ]
                     refine wpAnyH_take (i := 45) (oi := _) (v := ?_) (take_op rfl) (by kernel_rfl) (by kernel_rfl) (by kernel_rfl) (fun _ _ _ h => h) (Or.inl ⟨by rfl, ?_⟩) (by assumption) ?_
                     rotate_left
                     · (intro w hSw; (try dsimp only at hSw); go_simp; try with_reducible rfl)
                     try simp only [Act.put, List.setIfInBounds_toArray, List.set_cons_zero, List.set_cons_succ]
                     refine wpAnyH_take (i := 46) (oi := _) (v := ?_) (take_op rfl) (by kernel_rfl) (by kernel_rfl) (by kernel_rfl) (fun _ _ _ h => h) (Or.inl ⟨by rfl, ?_⟩) (by assumption) ?_
                     rotate_left
                     · (intro w hSw; (try dsimp only at hSw); go_simp; try with_reducible rfl)
                     try simp only [Act.put, List.setIfInBounds_toArray, List.set_cons_zero, List.set_cons_succ]
                     have e5 : jr.l = lk ∧ jr.r = true := ⟨by rw [HJ.out.2.2.1]; rfl, by rw [HJ.out.2.2.2]; rfl⟩
                     have HE := Lib.hid e5
                     clear e5 HJ
                     refine wpAnyH_ready (rs := [47]) (by kernel_rfl) (by simp) ?_
                     refine AllReadyH.cons (o := _) (take_op rfl) (fun K hK => ?_) AllReadyH.nil
                     go_simp
                     refine hK.out _ _ (by go_keep) (fun hHeld => ?_)
                     clear hK K
                     try simp only [Act.put, List.setIfInBounds_toArray, List.set_cons_zero, List.set_cons_succ]
                     refine wpAnyH_ready (rs := [48]) (by kernel_rfl) (by simp) ?_
                     refine AllReadyH.cons (o := _) (take_op rfl) (fun K hK => ?_) AllReadyH.nil
                     go_simp
                     refine hK.out _ _ (by go_keep) (fun hHeld => ?_)
                     clear hK K
                     try simp only [Act.put, List.setIfInBounds_toArray, List.set_cons_zero, List.set_cons_succ]
                     refine wpAnyH_done (by kernel_rfl) ?_ _
                     go_wp2_with fail
                     go_meet
                     exact ⟨_, rfl, by repeat (first | exact Fr0.refl _ | refine Fr0.alloc ?_ _ | refine Fr0.drew ?_ | refine Fr0.drewN ?_ _ | refine Fr0.setCell ?_ _ _ (by simp; try omega)), Nat.le_refl _, by rw [HE.out.1, HE.out.2]; exact alloc_at _ _ _ rfl⟩
                    | false =>
                     refine wpAnyH_take (i := 40) (oi := _) (v := ?_) (take_op rfl) (by kernel_rfl) (by kernel_rfl) (by kernel_rfl) (fun _ _ _ h => h) (Or.inl ⟨by rfl, ?_⟩) (by assumption) ?_
                     rotate_left
                     · (intro w hSw; (try dsimp only at hSw); go_simp; try with_reducible rfl)
                     try simp only [Act.put, List.setIfInBounds_toArray, List.set_cons_zero, List.set_cons_succ]
                     refine wpAnyH_take (i := 41) (oi := _) (v := ?_) (take_op rfl) (by kernel_rfl) (by kernel_rfl) (by kernel_rfl) (fun _ _ _ h => h) (Or.inl ⟨by rfl, ?_⟩) (by assumption) ?_
                     rotate_left
                     · (intro w hSw; (try dsimp only at hSw); go_simp; try with_reducible rfl)
                     try simp only [Act.put, List.setIfInBounds_toArray, List.set_cons_zero, List.set_cons_succ]
                     refine wpAnyH_take (i := 42) (oi := _) (v := ?_) (take_op rfl) (by kernel_rfl) (by kernel_rfl) (by kernel_rfl) (fun _ _ _ h => h) (Or.inl ⟨by rfl, ?_⟩) (by assumption) ?_
                     rotate_left
                     · (intro w hSw; (try dsimp only at hSw); go_simp; try with_reducible rfl)
                     try simp only [Act.put, List.setIfInBounds_toArray, List.set_cons_zero, List.set_cons_succ]
                     refine wpAnyH_take (i := 43) (oi := _) (v := ?_) (take_op rfl) (by kernel_rfl) (by kernel_rfl) (by kernel_rfl) (fun _ _ _ h => h) (Or.inl ⟨by rfl, ?_⟩) (by assumption) ?_
                     rotate_left
                     · (intro w hSw; (try dsimp only at hSw); go_simp; try with_reducible rfl)
                     try simp only [Act.put, List.setIfInBounds_toArray, List.set_cons_zero, List.set_cons_succ]
                     refine wpAnyH_take (i := 44) (oi := _) (v := ?_) (take_op rfl) (by kernel_rfl) (by kernel_rfl) (by kernel_rfl) (fun _ _ _ h => h) (Or.inl ⟨by rfl, ?_⟩) (by assumption) ?_
                     rotate_left
                     · (intro w hSw; (try dsimp only at hSw); go_simp; try with_reducible rfl)
                     try simp only [Act.put, List.setIfInBounds_toArray, List.set_cons_zero, List.set_cons_succ]
                     refine wpAnyH_take (i := 45) (oi := _) (v := ?_) (take_op rfl) (by kernel_rfl) (by kernel_rfl) (by kernel_rfl) (fun _ _ _ h => h) (Or.inl ⟨by rfl, ?_⟩) (by assumption) ?_
                     rotate_left
                     · (intro w hSw; (try dsimp only at hSw); go_simp; try with_reducible rfl)
                     try simp only [Act.put, List.setIfInBounds_toArray, List.set_cons_zero, List.set_cons_succ]
                     refine wpAnyH_take (i := 46) (oi := _) (v := ?_) (take_op rfl) (by kernel_rfl) (by kernel_rfl) (by kernel_rfl) (fun _ _ _ h => h) (Or.inl ⟨by rfl, ?_⟩) (by assumption) ?_
                     rotate_left
                     · (intro w hSw; (try dsimp only at hSw); go_simp; try with_reducible rfl)
                     try simp only [Act.put, List.setIfInBounds_toArray, List.set_cons_zero, List.set_cons_succ]
                     have e5 : jr.l = lk ∧ jr.r = rk := ⟨by rw [HJ.out.2.2.1]; rfl, by rw [HJ.out.2.2.2]; rfl⟩
                     have HE := Lib.hid e5
                     clear e5 HJ
                     refine wpAnyH_ready (rs := [47]) (by kernel_rfl) (by simp) ?_
                     refine AllReadyH.cons (o := _) (take_op rfl) (fun K hK => ?_) AllReadyH.nil
                     go_simp
                     refine hK.out _ _ (by go_keep) (fun hHeld => ?_)
                     clear hK K
                     try simp only [Act.put, List.setIfInBounds_toArray, List.set_cons_zero, List.set_cons_succ]
                     refine wpAnyH_ready (rs := [48]) (by kernel_rfl) (by simp) ?_
                     refine AllReadyH.cons (o := _) (take_op rfl) (fun K hK => ?_) AllReadyH.nil
                     go_simp
                     refine hK.out _ _ (by go_keep) (fun hHeld => ?_)
                     clear hK K
                     try simp only [Act.put, List.setIfInBounds_toArray, List.set_cons_zero, List.set_cons_succ]
                     refine wpAnyH_done (by kernel_rfl) ?_ _
                     go_wp2_with fail
                     go_meet
                     exact ⟨_, rfl, by repeat (first | exact Fr0.refl _ | refine Fr0.alloc ?_ _ | refine Fr0.drew ?_ | refine Fr0.drewN ?_ _ | refine Fr0.setCell ?_ _ _ (by simp; try omega)), Nat.le_refl _, by rw [HE.out.1, HE.out.2]; exact alloc_at _ _ _ rfl⟩
                  case rest =>
                  obtain ⟨X, rfl, hF5, hX, hXc⟩ := hcut
                  rename World => W5
                  have hrow5 := HRW.out.kept0 hF5
                  have HF5 := Lib.hid (HF4.out.trans hF5)
                  have HXC := Lib.hid hXc
                  have HR5 := Lib.hid hrow5
                  have hXb : X < W5.heap.size := lt_of_block hXc
                  have hbb5 : w.heap.size ≤ W5.heap.size := by have := (HFO.out.trans HF5.out).size; omega
                  obtain ⟨n, hn⟩ : ∃ n, all.length = n := ⟨_, rfl⟩
                  have HNL := Lib.hid hn
                  rw [hn] at hlt hlk hal hcap hcap3
                  clear hF5 hXc hrow5 i0 i1 i2 i3 k0 k1 k2 k3 hX HRW HF4 hn
                  have f1 : (i : Int) ≤ (vc : Int) := by omega
                  have f2 : (i : Int) + 1 ≤ (k : Int) := by omega
                  have f3 : (k : Int) ≤ (vc : Int) := by omega
                  have f4 : (0 : Int) ≤ (i : Int) + 1 := by omega
                  have f5 : (0 : Int) ≤ (k : Int) + 1 := by omega
                  have f6 : (k : Int) + 1 ≤ (n : Int) := by omega
                  have f7 : (n : Int) ≤ (vc : Int) := by omega
                  have f8 := IntWalk.i64_in ((i : Int) + 1) (by omega)
                  have f9 := IntWalk.i64_in ((k : Int) + 1) (by omega)
                  have f10 : ((i : Int) + 1).toNat = i + 1 := by omega
                  have f11 : ((k : Int) + 1).toNat = k + 1 := by omega
                  have f12 : ¬ vc = i + 1 := by omega
                  obtain ⟨A3, hA3⟩ : ∃ A, (if vc = k + 1 then (some (⟨bb, 0, none⟩ : Addr)) else some ⟨bb, (k + 1) * 4, none⟩) = A := ⟨_, rfl⟩
                  have S3 : Hid (∀ w' : World, Fr0 W5 w' → SrcAt w' (.slice A3 (n - (k + 1)) (vc - (k + 1))) (n - (k + 1)) ((part all (k + 1) n).flatMap rgz)) := fun w' hw => by
                   have hnl := HNL.out
                   by_cases hc : vc = k + 1
                   · rw [if_pos hc] at hA3
                     subst hA3
                     have e : n - (k + 1) = 0 := by omega
                     have e2 : part all (k + 1) n = [] := by unfold part; rw [e, List.take_zero]
                     rw [e2, e]
                     exact src_empty rfl rfl
                   · rw [if_neg hc] at hA3
                     subst hA3
                     exact src_part (vals := rgz) (fun _ _ => rfl) (HR5.out.kept0 hw) (k + 1) n (by omega) (by omega) _ _ _ rfl rfl
                  have L1 : Hid (i = (part all 0 i).length) := by show _ = _; rw [part_len all (by omega) (by have := HNL.out; omega)]; omega
                  have L2 : Hid (k - (i + 1) = (part all (i + 1) k).length) := by show _ = _; rw [part_len all (by omega) (by have := HNL.out; omega)]
                  have L3 : Hid (n - (k + 1) = (part all (k + 1) n).length) := by show _ = _; rw [part_len all (by omega) (by have := HNL.out; omega)]
                  have M1 : Hid (([] : List Rgp).length + (part all 0 i).length ≤ 1000) := by show _ ≤ _; have := L1.out; simp only [List.length_nil]; omega
                  have M2 : Hid (([] ++ part all 0 i).length + (part all (i + 1) k).length ≤ 1000) := by show _ ≤ _; have := L1.out; have := L2.out; simp only [List.length_append, List.length_nil]; omega
                  have M3 : Hid (([] ++ part all 0 i ++ part all (i + 1) k).length + (part all (k + 1) n).length ≤ 1000) := by show _ ≤ _; have := L1.out; have := L2.out; have := L3.out; simp only [List.length_append, List.length_nil]; omega
                  have HJA : Hid ([] ++ part all 0 i ++ part all (i + 1) k ++ part all (k + 1) n ++ [jr] = joinAt all i k (by have := HNL.out; omega) (by have := HNL.out; omega)) := by
                   show _ = _
                   have hnl := HNL.out
                   unfold joinAt part
                   rw [HJR.out, List.nil_append, List.drop_zero, Nat.sub_zero, Nat.sub_sub, List.take_of_length_le (l := all.drop (k + 1)) (by rw [List.length_drop]; omega)]
                  rw [HNL.out]
                  go_upto_region 23 with fail
                  go_region_held3 (fun w' => Fr0 W5 w')
                   (first
                    | exact (Fr0.refl _).drew
                    | exact Fr0.alloc (by assumption) _
                    | assumption)
                   (first
                    | (refine step_part (by rfl) _ _ (by rfl) _ [] (by rfl) (by assumption) (own_empty _ _ (by simp)) _ (part all 0 i) (by rfl) _ L1.out (src_part (vals := rgz) (fun _ _ => rfl) (HR5.out.kept0 (by assumption)) 0 i (by omega) (by have := HNL.out; omega) _ _ _ (Nat.sub_zero i).symm (by omega)) M1.out ?_; intro v1 w1 q1 q2)
                    | (refine step_part (by rfl) _ _ (by rfl) _ ([] ++ part all 0 i) (by rfl) (by assumption) (by assumption) _ (part all (i + 1) k) (by rfl) _ L2.out (src_part (vals := rgz) (fun _ _ => rfl) (HR5.out.kept0 (by assumption)) (i + 1) k (by omega) (by have := HNL.out; omega) _ _ _ rfl rfl) M2.out ?_; intro v2 w2 q3 q4)
                    | (refine step_part (by rfl) _ _ (by rfl) _ ([] ++ part all 0 i ++ part all (i + 1) k) (by rfl) (by assumption) (by assumption) _ (part all (k + 1) n) (by rfl) _ L3.out (S3.out _ (by assumption)) M3.out ?_; intro v3 w3 q5 q6))
                  have HQ5 := Lib.hid q5
                  have HQ6 := Lib.hid q6
                  have hxl : ([] ++ part all 0 i ++ part all (i + 1) k ++ part all (k + 1) n).length ≤ 1000 := by have := M3.out; simp only [List.length_append, List.length_nil] at *; omega
                  have hx3 : ∀ j : Nat, v3.ownBlock = some j → W5.heap.size ≤ j := fun j hj => (q6.lt j hj).1
                  clear f1 f2 f3 f4 f5 f6 f7 f8 f9 f10 f11 f12 hA3 S3 L1 L2 L3 M1 M2 M3 q1 q2 q3 q4 q5 q6
                  generalize [] ++ part all 0 i ++ part all (i + 1) k ++ part all (k + 1) n = P at *
                  have hxc := fun w' (h : Fr0 W5 w') => World.news_of_block (h.kept HXC.out)
                  have c0 : w3.cell? ⟨X, 0, none⟩ = some (.int .i64 jr.from_) := by have := hxc w3 HQ5.out 0 _ rfl; simpa only [Addr.add_lit, Nat.zero_add] using this
                  have c1 : w3.cell? ⟨X, 1, none⟩ = some (.int .i64 jr.to_) := by have := hxc w3 HQ5.out 1 _ rfl; simpa only [Addr.add_lit, Nat.zero_add] using this
                  have c2 : w3.cell? ⟨X, 2, none⟩ = some (.bool jr.l) := by have := hxc w3 HQ5.out 2 _ rfl; simpa only [Addr.add_lit, Nat.zero_add] using this
                  have c3 : w3.cell? ⟨X, 3, none⟩ = some (.bool jr.r) := by have := hxc w3 HQ5.out 3 _ rfl; simpa only [Addr.add_lit, Nat.zero_add] using this
                  have lX : X < w3.heap.size := by have := HQ5.out.size; omega
                  have hfar : some X ≠ v3.ownBlock := fun e => by have := hx3 X e.symm; omega
                  have hw53 : W5.heap.size ≤ w3.heap.size := HQ5.out.size
                  clear hxc hx3
                  have hq6 := HQ6.out
                  go_wp2_with (at_builtin; refine wpList_pushG (vals := rgz) rt_rgp rfl _ _ rfl W5.heap.size _ P rfl hq6 hw53 81 jr #[.int .i64 jr.from_, .int .i64 jr.to_, .bool jr.l, .bool jr.r] rfl rfl (by simp [rgz, Value.oneCell']) 1 _ rfl rfl (by omega) (by omega) ?_; intro v4 w4 hO4 hg4 hat4)
                  have HFX : Hid (Fr0 W5 w4) := Fr.trans HQ5.out (Fr.grown (S := fun j => v3.ownBlock = some j) ((Fr.refl _ w3).alloc _) hg4 (fun j hj _ => hj)) (fun j hj hlt => by have := (HQ6.out.lt j hj).1; omega)
                  have HO4 := Lib.hid hO4
                  clear hO4 hg4 hat4 c0 c1 c2 c3 lX
                  go_wp2_with fail
                  rw [← HNL.out]
                  go_roundg 0
                  case measure => omega
                  case rel =>
                   have hi2 : i < all.length := by have := HNL.out; omega
                   have hk2 : k < all.length := by have := HNL.out; omega
                   have hjo := joinAt_ok HRI.out (by omega) hi2 hk2 HOV2.out
                   exact ⟨k + 1, by go_num, by omega, by omega, .inr ⟨rfl, rfl, joinAt all i k hi2 hk2, by rw [← HJA.out]; exact own_less HO4.out hbb5, (HFO.out.trans HF5.out).trans HFX.out, hjo.1, joinAt_bd hi2 hk2 HBD.out, hjo.2⟩⟩
               · have HN2 : Hid (NoOvl all (i + 1)) := fun x y hx hy hxy hxi => by
                   by_cases e : x = i
                   · subst e; exact hov y hy hxy (by omega)
                   · exact HNO.out x y hx hy hxy (by omega)
                 have HF3 := Lib.hid hf3
                 clear hov hf3
                 go_wp2_with fail
                 go_roundg (all.length - (i + 1))
                 case measure => omega
                 case rel => exact ⟨i + 1, by omega, by go_num, rfl, rfl, HF3.out, HN2.out⟩
             · obtain ⟨v2, c2, e2⟩ := owns_form hr2
               have HX2 := Lib.hid hr2
               have HF3 := Lib.hid hf3
               have HI2 := Lib.hid hri2
               have HB2 := Lib.hid hbd2
               subst e2
               clear hr2 hf3 hri2 hbd2
               by_cases hlk : k < all2.length
               · have d1 : decide ((k : Int) < (all2.length : Int)) = true := decide_eq_true (by omega)
                 go_wp2_with fail
                 go_roundg (all2.length + 1)
                 case measure => have := HGK.out; omega
                 case rel => exact ⟨all2, true, rfl, HF3.out, HX2.out, HI2.out, HB2.out, by omega, (fun h => by cases h), rfl⟩
               · have d1 : decide ((k : Int) < (all2.length : Int)) = false := decide_eq_false (by omega)
                 go_wp2_with fail
                 go_roundg (all2.length + 1)
                 case measure => have := HGK.out; omega
                 case rel => exact ⟨all2, true, rfl, HF3.out, HX2.out, HI2.out, HB2.out, by omega, (fun h => by cases h), rfl⟩
          · have hie : i = all.length := by omega
            have HAP : Hid (ApartG all) := NoOvl.apart (by rw [hie] at hno; exact hno)
            have HF2 := Lib.hid (HFO.out.trans hf2)
            have HR2 := Lib.hid (HRO.out.kept0 hf2)
            clear hno hf2
            go_wp2_with fail
            go_roundg 0
            case measure => have := HGK.out; omega
            case rel => exact ⟨all, false, rfl, HF2.out, HR2.out, HRI.out, HBD.out, hal, fun _ => HAP.out, rfl⟩
end Go.Proofs.YtbhidkmhlfggfaaGreatDoor

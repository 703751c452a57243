/- The ranges of the reference, letter by letter, and the walk of its Since. -/
import Derived.Test.YtbokcmkbnkncoaaSin
import Derived.Test.YtbokcmkbnkncoaaRef1
set_option linter.unusedSimpArgs false
set_option linter.unusedVariables false
namespace Go.Proofs.Ytbokcmkbnkncoaa
open Go.RowKit

theorem owned_spE {e : TypeId} {w : World} {v : Value} {l : List Sp} (h : w.ownsRow 0 e 2 v l.length (spCells l)) {k : Nat} {s : Sp} (hx : l[k]? = some s) :
    ∃ lb cap, v = .slice (some ⟨lb, 0, none⟩) l.length cap ∧ ∀ j u, s.vals[j]? = some u → w.cell? ⟨lb, k * 2 + j, none⟩ = some u := by
  have hlt : k < l.length := (List.getElem?_eq_some_iff.1 hx).1
  obtain ⟨lb, cap, hsv, _, _⟩ := h.form (by omega)
  refine ⟨lb, cap, hsv, fun j u hu => ?_⟩
  have hj : j < 2 := by have := (List.getElem?_eq_some_iff.1 hu).1; simpa [Sp.vals] using this
  rw [hsv] at h
  refine owns_cell h _ _ ?_
  rw [spCells, flat_get Sp.vals 2 l (fun _ _ => rfl) k j hj s hx]
  exact hu

/-- What holds at each round's head, of spans l made so far. -/
structure SRelE (e : TypeId) (w wr : World) (v : Value) (l : List Sp) (p : Int) : Prop where
  frame : Fr0 w wr
  own : wr.ownsRow 0 e 2 v l.length (spCells l)
  new : ∀ k, v.ownBlock = some k → w.heap.size ≤ k
  ok : SpOk p l

theorem SRelE.same {e : TypeId} {w wr w' : World} {v : Value} {l : List Sp} {p q : Int} (h : SRelE e w wr v l p) (hf : Fr0 wr w') (hq : p ≤ q) : SRelE e w w' v l q :=
  ⟨h.frame.trans hf, hf.owns h.own, h.new, h.ok.mono hq⟩

theorem SRelE.join {e : TypeId} {w wr : World} {lb cap : Nat} {l : List Sp} {s : Sp} {p n : Int} (h : SRelE e w wr (.slice (some ⟨lb, 0, none⟩) l.length cap) l p) (hg : l.getLast? = some s) (he : s.fr + s.n = p) (h0 : 0 ≤ p) (hn : 1 ≤ n) :
    SRelE e w (wr.setCell ⟨lb, (l.length - 1) * 2 + 1, none⟩ (.int .i64 (s.n + n))) (.slice (some ⟨lb, 0, none⟩) l.length cap) (addSp l p n) (p + n) ∧ (addSp l p n).length = l.length := by
  have hok := addSp_ok h.ok n h0 hn
  rw [addSp_join hg n he] at hok ⊢
  have hne : l ≠ [] := by rintro rfl; cases hg
  have hel : l.dropLast ++ [s] = l := by
    have h1 := List.dropLast_concat_getLast hne
    rw [List.getLast?_eq_some_getLast hne] at hg
    rw [Option.some.inj hg] at h1
    exact h1
  have hll : l.length = l.dropLast.length + 1 := by rw [← hel]; simp
  have hlen : (l.dropLast ++ [(⟨s.fr, s.n + n⟩ : Sp)]).length = l.length := by simp; omega
  refine ⟨⟨h.frame.setCell _ _ (h.new lb rfl), ?_, h.new, hok⟩, hlen⟩
  rw [hlen]
  have h1 := owns_set_own h.own ((l.length - 1) * 2 + 1) (.int .i64 (s.n + n)) (by rw [h.own.1]; omega)
  have h2 : (spCells l).set ((l.length - 1) * 2 + 1) (.int .i64 (s.n + n)) = spCells (l.dropLast ++ [⟨s.fr, s.n + n⟩]) := by
    rw [← spCells_set l.dropLast s (s.n + n), hel, hll]; rfl
  rw [h2] at h1
  exact h1

theorem SRelE.push {e : TypeId} {w wr w1 : World} {v : Value} {l : List Sp} {p n : Int} {o : Obj} {g cap : Nat} (h : SRelE e w wr v l p) (hadd : addSp l p n = l ++ [⟨p, n⟩]) (h0 : 0 ≤ p) (hn : 1 ≤ n)
    (hown1 : w1.ownsRow 0 e 2 (.slice (some ⟨g, 0, none⟩) (l.length + 1) cap) (l.length + 1) (spCells l ++ [.int .i64 p, .int .i64 n])) (hgrow : (wr.alloc o).grownBy w1 v.ownBlock) (hat : v.ownBlock = some g ∨ g = wr.heap.size + 1) :
    SRelE e w w1 (.slice (some ⟨g, 0, none⟩) (l.length + 1) cap) (addSp l p n) (p + n) ∧ (addSp l p n).length = l.length + 1 := by
  have hok := addSp_ok h.ok n h0 hn
  rw [hadd] at hok ⊢
  refine ⟨⟨Fr.grown (Fr.alloc h.frame o) hgrow (fun j hj hlt => by have := h.new j hj; omega), ?_, ?_, hok⟩, by simp⟩
  · have e1 : spCells (l ++ [⟨p, n⟩]) = spCells l ++ [.int .i64 p, .int .i64 n] := by simp [spCells, Sp.vals]
    rw [e1, List.length_append]
    exact hown1
  · intro k hk
    simp [Value.ownBlock] at hk
    subst hk
    have := h.frame.size'
    rcases hat with g1 | g1
    · exact h.new _ g1
    · omega

/-- The ranges of letters with later versions, from an offset on. -/
def sinceF (v : Int) : Int → List Sp → List Lt → List Sp
  | _, l, [] => l
  | p, l, x :: T => sinceF v (p + 1) (if x.ver ≤ v then l else addSp l p 1) T

theorem addSp_again (l : List Sp) (p m : Int) (hm : 1 ≤ m) : addSp (addSp l p m) (p + m) 1 = addSp l p (m + 1) := by
  have key : ∀ (i : List Sp) (s : Sp), s.fr + s.n = p + m → addSp (i ++ [s]) (p + m) 1 = i ++ [⟨s.fr, s.n + 1⟩] := by
    intro i s he
    rw [addSp_join (s := s) (by simp) 1 he]
    simp
  cases hg : l.getLast? with
  | none => rw [addSp_none hg, addSp_none hg, key l ⟨p, m⟩ rfl]
  | some s =>
    by_cases he : s.fr + s.n = p
    · rw [addSp_join hg m he, addSp_join hg (m + 1) he, key l.dropLast ⟨s.fr, s.n + m⟩ (by dsimp only; omega)]
      congr 3; dsimp only; omega
    · rw [addSp_new hg m he, addSp_new hg (m + 1) he, key l ⟨p, m⟩ rfl]

theorem run_cons (n : Nat) (ver org : Int) : run (n + 1) ver org = ⟨ver, org⟩ :: run n ver (org + 1) := by
  have := run_add 1 n ver org
  rw [Nat.add_comm] at this
  rw [this]
  simp [run]

theorem sinceF_low (v : Int) (T' : List Lt) (l : List Sp) : ∀ (n : Nat) (ver org p : Int), ver ≤ v → sinceF v p l (run n ver org ++ T') = sinceF v (p + n) l T'
  | 0, ver, org, p, h => by simp [run]
  | n + 1, ver, org, p, h => by
    rw [run_cons, List.cons_append]
    show sinceF v (p + 1) (if ver ≤ v then l else addSp l p 1) (run n ver (org + 1) ++ T') = _
    rw [if_pos h, sinceF_low v T' l n ver (org + 1) (p + 1) h, show p + 1 + (n : Int) = p + ((n + 1 : Nat) : Int) by omega]

theorem sinceF_high (v : Int) (T' : List Lt) (l : List Sp) (p : Int) : ∀ (n m : Nat) (ver org : Int), v < ver → 1 ≤ m → sinceF v (p + m) (addSp l p m) (run n ver org ++ T') = sinceF v (p + m + n) (addSp l p ((m : Int) + n)) T'
  | 0, m, ver, org, h, hm => by simp [run]
  | n + 1, m, ver, org, h, hm => by
    rw [run_cons, List.cons_append]
    show sinceF v (p + m + 1) (if ver ≤ v then addSp l p m else addSp (addSp l p m) (p + m) 1) (run n ver (org + 1) ++ T') = _
    rw [if_neg (Int.not_le.2 h), addSp_again l p m (by omega)]
    have ih := sinceF_high v T' l p n (m + 1) ver (org + 1) h (by omega)
    rw [show ((m + 1 : Nat) : Int) = (m : Int) + 1 by omega] at ih
    rw [show p + (m : Int) + 1 = p + ((m : Int) + 1) by omega, ih]
    congr 1
    · simp; omega
    · congr 1; simp; omega

theorem sinceF_rows (v : Int) : ∀ (rs : List Rw) (p : Int) (T : List Lt) (l : List Sp), Cv p rs T → sinceF v p l T = rs.foldl (fun l r => if r.ver ≤ v then l else addSp l r.fr r.n) l
  | [], p, T, l, h => by have : T = [] := h; subst this; rfl
  | r :: rs, p, T, l, h => by
    obtain ⟨h1, h2, T', rfl, h4⟩ := h
    rw [List.foldl_cons, ← sinceF_rows v rs (p + r.n) T' _ h4]
    obtain ⟨n, hn⟩ : ∃ n : Nat, r.n.toNat = n + 1 := ⟨r.n.toNat - 1, by omega⟩
    by_cases hv : r.ver ≤ v
    · rw [if_pos hv, sinceF_low v T' l _ _ _ _ hv]
      congr 1; omega
    · rw [if_neg hv, hn, run_cons, List.cons_append]
      show sinceF v (p + 1) (if r.ver ≤ v then l else addSp l p 1) (run n r.ver (r.org + 1) ++ T') = _
      rw [if_neg hv]
      have := sinceF_high v T' l p n 1 r.ver (r.org + 1) (by omega) (by omega)
      rw [show ((1 : Nat) : Int) = 1 from rfl] at this
      rw [this, h1]
      congr 1
      · omega
      · congr 1; omega

theorem sinceF_eq (v : Int) (T : List Lt) : sinceF v 0 [] T = sinceR v (rowsOf T) := sinceF_rows v _ 0 T [] (Cv.rows T)

theorem info_rspan : (Try.prog.info? 82).map (fun i => (i.zero, i.size, i.bytes)) = some (some (.agg #[.int .i64 0, .int .i64 0]), 2, 16) := by kernel_rfl

set_option maxRecDepth 100000 in
set_option maxHeartbeats 2000000 in
theorem ref_Since {w w00 : World} (tv : Value) (T : List Lt) (hT : LOwn w00 w tv T) (hTl : T.length ≤ 900000) (version : Int) :
    Calls Try.prog 24 #[tv, .int .i64 version] w fun e w' => ∃ v, e = .returned v ∧ w'.ownsRow 0 82 2 v (sinceF version 0 [] T).length (spCells (sinceF version 0 [] T)) ∧ Fr0 w w' := by
  obtain ⟨ta, tcap, rfl⟩ := owns_form hT.own
  have HT := Lib.hid hT
  obtain ⟨i1, hi1, ha1, ha2, ha3⟩ := info_parts info_rspan
  have hu1 : Try.prog.underlying 80 = some (.slice 82) := Try.underlying80
  obtain ⟨R, hR⟩ : ∃ R, sinceF version 0 [] T = R := ⟨_, rfl⟩
  rw [hR]
  have HR := Lib.hid hR
  clear hT hR
  go_enter Try.func24, Try.ntmps24
  go_wp2_with fail
  go_loopw [5, 6] (fun v i wr => ∃ (k : Nat) (l : List Sp), k ≤ T.length ∧ i = .int .i64 k ∧ l.length ≤ k ∧ Hid (sinceF version (k : Int) l (T.drop k) = R) ∧ (∃ a cap, v = .slice a l.length cap) ∧ SRelE 82 w wr v l (k : Int)) (fun _ i _ => T.length - (intOf i).toNat)
  case atStart => exact ⟨0, [], Nat.zero_le _, rfl, by simp, HR.out, ⟨none, 0, rfl⟩, ⟨Fr0.refl _, World.ownsRow_nil _ _ _ _, fun k hk => by simp [Value.ownBlock] at hk, fun s hs => by simp at hs⟩⟩
  case round =>
    obtain ⟨k, l, hk, rfl, hll, HL, ⟨va, vcap, rfl⟩, hS⟩ := hrel
    have hfr := hS.frame
    by_cases hlt : k < T.length
    · obtain ⟨tb, tc, htv, x0, x1, ltb⟩ := (HT.out.kept0 hfr).cell hlt
      simp only [Value.slice.injEq] at htv
      obtain ⟨rfl, _, rfl⟩ := htv
      have hF := HL.out
      rw [List.drop_eq_getElem_cons hlt] at hF
      have HSN : Hid (sinceF version ((k : Int) + 1) (if T[k].ver ≤ version then l else addSp l k 1) (T.drop (k + 1)) = R) := hF
      have HS := Lib.hid hS
      clear hF hS HL
      generalize T[k] = r at *
      by_cases hv : r.ver ≤ version
      · have HSN2 : Hid (sinceF version ((k + 1 : Nat) : Int) l (T.drop (k + 1)) = R) := by have := HSN.out; rw [if_pos hv] at this; rw [Int.natCast_add]; exact this
        go_wp2_with fail
        go_roundw
        case rel => exact ⟨k + 1, l, by omega, by go_num, by omega, HSN2, ⟨_, _, rfl⟩, HS.out.same (Fr0.refl _) (by omega)⟩
        case measure => simp [intOf]; omega
      · have HSN2 : Hid (sinceF version ((k + 1 : Nat) : Int) (addSp l k 1) (T.drop (k + 1)) = R) := by have := HSN.out; rw [if_neg hv] at this; rw [Int.natCast_add]; exact this
        clear HSN
        have hn63 : l.length + 1 ≤ maxLen := by unfold maxLen; omega
        have hby : (l.length + 1) * 16 ≤ 140737488355328 := by omega
        have hp0 : (0 : Int) ≤ (k : Int) := by omega
        cases hg : l.getLast? with
        | none =>
          have hadd := addSp_none hg (k : Int) 1
          obtain rfl : l = [] := List.getLast?_eq_none_iff.1 hg
          have HADD := Lib.hid hadd
          clear hg hadd
          go_upto_region 7 with fail
          go_cut [40] (fun s wx => s = .bool false ∧ Fr0 wr wx)
          case first =>
            go_quiet (fail)
            go_wp2_with fail
            go_meet
            exact ⟨rfl, (Fr0.refl wr).drewN _⟩
          case rest =>
            obtain ⟨rfl, hf2⟩ := hcut
            have hS2 := HS.out.same hf2 (Int.le_refl _)
            have HS2 := Lib.hid hS2
            go_wp2_with (at_builtin; refine wpList_append_lies _ rfl _ _ _ rfl 0 82 i1 _ 2 16 hu1 hi1 ha1 ha2 ha3 rfl (by omega) _ ([] : List Sp).length (spCells ([] : List Sp)) rfl (hS2.own.alloc _) ⟨wc.heap.size, 0, none⟩ 1 1 [.int .i64 k, .int .i64 1] rfl rfl (World.news_of_block (cs := #[.int .i64 k, .int .i64 1]) (t := 82) (fr := (0, 0)) (heap_alloc_new wc _)) (by simp [Value.oneCell']) (by omega) hn63 hby (by omega) (wc.heap.size + 1) (by simp) ?_; intro g cap' w1 hown1 hgrow hat hlt2)
            obtain ⟨j1, j2⟩ := HS2.out.push HADD.out hp0 (by omega) hown1 hgrow hat
            go_roundw
            case rel => exact ⟨k + 1, addSp ([] : List Sp) k 1, by omega, by go_num, by rw [j2]; omega, HSN2, ⟨some ⟨g, 0, none⟩, cap', by simp [j2]⟩, by rw [Int.natCast_add]; exact j1⟩
            case measure => simp [intOf]; omega
        | some s =>
          have hx : l[l.length - 1]? = some s := by rw [← List.getLast?_eq_getElem?]; exact hg
          have hpos : 0 < l.length := by have := (List.getElem?_eq_some_iff.1 hx).1; omega
          obtain ⟨lb, vcap', hrv2, hc⟩ := owned_spE HS.out.own hx
          simp only [Value.slice.injEq] at hrv2
          obtain ⟨rfl, _, rfl⟩ := hrv2
          have y0 := hc 0 _ rfl
          have y1 := hc 1 _ rfl
          rw [Nat.add_zero] at y0
          have hso := HS.out.ok s (List.mem_of_getLast? hg)
          have g1 : (0 : Int) ≤ (l.length : Int) - 1 := by omega
          have g2 : (l.length : Int) - 1 < (l.length : Int) := by omega
          have g3 : (1 : Int) ≤ (l.length : Int) := by omega
          have g4 : decide (1 ≤ l.length) = true := decide_eq_true (by omega)
          have g5 := IntWalk.i64_in (s.fr + s.n) (by omega)
          clear hc hx
          by_cases he : s.fr + s.n = k
          · have e1 : (s.fr + s.n == (k : Int)) = true := by simpa using he
            have HG := Lib.hid hg
            have HE := Lib.hid he
            clear he hg
            go_upto_region 7 with fail
            go_cut [40] (fun s wx => s = .bool true ∧ Fr0 wr wx)
            case first =>
              go_quiet (fail)
              go_wp2_with fail
              go_meet
              exact ⟨rfl, (Fr0.refl wr).drewN _⟩
            case rest =>
              obtain ⟨rfl, hf2⟩ := hcut
              have hS2 := HS.out.same hf2 (Int.le_refl _)
              have HS2 := Lib.hid hS2
              have y1' := (hf2.cell lb _ (World.block_lt_of_cell? wr _ y1)).trans y1
              have hfz := owns_free hS2.own rfl
              have hlb' : lb < wc.heap.size := Nat.lt_of_lt_of_le (World.block_lt_of_cell? wr _ y1) hf2.size'
              have HJ2 := Lib.hid (hS2.join (n := 1) HG.out HE.out hp0 (by omega))
              clear hS2 y0 y1 e1 g4 g5
              go_wp2_with fail
              obtain ⟨j1, j2⟩ := HJ2.out
              go_roundw
              case rel => exact ⟨k + 1, addSp l k 1, by omega, by go_num, by rw [j2]; omega, HSN2, ⟨some ⟨lb, 0, none⟩, vcap, by rw [j2]⟩, by rw [Int.natCast_add]; exact j1⟩
              case measure => simp [intOf]; omega
          · have e1 : (s.fr + s.n == (k : Int)) = false := by simpa using he
            have HADD := Lib.hid (addSp_new hg 1 he)
            clear he hg
            go_upto_region 7 with fail
            go_cut [40] (fun s wx => s = .bool false ∧ Fr0 wr wx)
            case first =>
              go_quiet (fail)
              go_wp2_with fail
              go_meet
              exact ⟨rfl, (Fr0.refl wr).drewN _⟩
            case rest =>
              obtain ⟨rfl, hf2⟩ := hcut
              have hS2 := HS.out.same hf2 (Int.le_refl _)
              have HS2 := Lib.hid hS2
              clear y0 y1 e1 g4 g5
              go_wp2_with (at_builtin; refine wpList_append_lies _ rfl _ _ _ rfl 0 82 i1 _ 2 16 hu1 hi1 ha1 ha2 ha3 rfl (by omega) _ l.length (spCells l) rfl (hS2.own.alloc _) ⟨wc.heap.size, 0, none⟩ 1 1 [.int .i64 k, .int .i64 1] rfl rfl (World.news_of_block (cs := #[.int .i64 k, .int .i64 1]) (t := 82) (fr := (0, 0)) (heap_alloc_new wc _)) (by simp [Value.oneCell']) (by omega) hn63 hby (by omega) (wc.heap.size + 1) (by simp) ?_; intro g cap' w1 hown1 hgrow hat hlt2)
              obtain ⟨j1, j2⟩ := HS2.out.push HADD.out hp0 (by omega) hown1 hgrow hat
              go_roundw
              case rel => exact ⟨k + 1, addSp l k 1, by omega, by go_num, by rw [j2]; omega, HSN2, ⟨some ⟨g, 0, none⟩, cap', by simp [j2]⟩, by rw [Int.natCast_add]; exact j1⟩
              case measure => simp [intOf]; omega
    · have hls : Hid (l = R) := by have := HL.out; rw [List.drop_of_length_le (by omega)] at this; exact this
      go_wp2_with fail
      go_ret
      exact ⟨_, rfl, by rw [← hls.out]; exact hS.own, hfr⟩

end Go.Proofs.Ytbokcmkbnkncoaa

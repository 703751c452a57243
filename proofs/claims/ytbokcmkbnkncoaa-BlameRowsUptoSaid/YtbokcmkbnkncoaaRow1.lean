/- The walks of the reference's Formed and Rows. -/
import Derived.Test.YtbokcmkbnkncoaaRef2
import Derived.Test.YtbokcmkbnkncoaaSin
import Derived.Deep.RegionLawGrows
set_option linter.unusedSimpArgs false
set_option linter.unusedVariables false
namespace Go.Proofs.Ytbokcmkbnkncoaa
open Go.RowKit

set_option maxRecDepth 100000 in
set_option maxHeartbeats 2000000 in
theorem ref_Formed {w : World} (length : Int) (h0 : 0 ≤ length) (h1 : length ≤ 1000000) (pa : Option Addr) (pcap : Nat) (ms : List Chg) (hm : ChgsAt w pa ms) (hml : ms.length ≤ 1000) (B : Bool) (hB : formedFrom length (-1) ms = B) :
    Calls Try.prog 13 #[.int .i64 length, .slice pa ms.length pcap] w fun e w' => e = .returned (.bool B) ∧ Fr0 w w' := by
  have HM := Lib.hid hm
  have HB := Lib.hid hB
  clear hm hB
  go_enter Try.func13, Try.ntmps13
  go_wp2_with fail
  go_loopw [5, 6] (fun la i wr => ∃ (k : Nat) (last : Int), k ≤ ms.length ∧ i = .int .i64 k ∧ la = .int .i64 last ∧ Fr0 w wr ∧ Hid (formedFrom length last (ms.drop k) = B)) (fun _ i _ => ms.length - (intOf i).toNat)
  case atStart => exact ⟨0, -1, Nat.zero_le _, rfl, rfl, Fr0.refl w, HB.out⟩
  case round =>
    obtain ⟨k, last, hk, rfl, rfl, hfr, HFM⟩ := hrel
    by_cases hlt : k < ms.length
    · obtain ⟨b, off, hab, lb, d0, d1, d2⟩ := (HM.out.kept0 hfr) k hlt
      have hfd := formed_drop hlt HFM.out
      subst hab
      cases hfit : fitB length last ms[k] with
      | true =>
        rw [hfit, Bool.true_and] at hfd
        have HNX := Lib.hid hfd
        obtain ⟨t1, t2, t3, t4, t5⟩ := fitB_true hfit
        clear hfit HFM hfd
        generalize ms[k] = c at *
        have q0 : decide (c.at_ < 0) = false := decide_eq_false (by omega)
        have q1 : decide (c.n < 0) = false := decide_eq_false (by omega)
        have q2 : decide (length < c.at_) = false := decide_eq_false (by omega)
        have q3 : decide (length - c.at_ < c.n) = false := decide_eq_false (by omega)
        have q4 : decide (c.at_ ≤ last) = false := decide_eq_false (by omega)
        by_cases hn : c.n = 0
        · have q5 : (c.text == 0) = false := by simp; exact fun h => t5 ⟨hn, h⟩
          have q6 : (c.n == 0) = true := by simpa using hn
          clear t5 hn
          go_wp2_with fail
          go_roundw
          case rel => exact ⟨k + 1, c.at_ + c.n, by omega, by go_num, rfl, hfr.alloc _, HNX⟩
          case measure => simp [intOf]; omega
        · have q6 : (c.n == 0) = false := by simpa using hn
          clear t5 hn
          go_wp2_with fail
          go_roundw
          case rel => exact ⟨k + 1, c.at_ + c.n, by omega, by go_num, rfl, hfr.alloc _, HNX⟩
          case measure => simp [intOf]; omega
      | false =>
        rw [hfit, Bool.false_and] at hfd
        subst hfd
        clear HFM
        generalize ms[k] = c at *
        by_cases q0 : c.at_ < 0
        · clear hfit
          go_wp2_with fail
          go_ret
          exact ⟨rfl, hfr.alloc _⟩
        have p0 : decide (c.at_ < 0) = false := decide_eq_false q0
        by_cases q1 : c.n < 0
        · clear hfit
          go_wp2_with fail
          go_ret
          exact ⟨rfl, hfr.alloc _⟩
        have p1 : decide (c.n < 0) = false := decide_eq_false q1
        by_cases q2 : length < c.at_
        · clear hfit
          go_wp2_with fail
          go_ret
          exact ⟨rfl, hfr.alloc _⟩
        have p2 : decide (length < c.at_) = false := decide_eq_false q2
        by_cases q3 : length - c.at_ < c.n
        · clear hfit
          go_wp2_with fail
          go_ret
          exact ⟨rfl, hfr.alloc _⟩
        have p3 : decide (length - c.at_ < c.n) = false := decide_eq_false q3
        by_cases q5 : c.n = 0 ∧ c.text = 0
        · have p5 : (c.n == 0) = true := by simpa using q5.1
          have p6 : (c.text == 0) = true := by simpa using q5.2
          clear hfit q5
          go_wp2_with fail
          go_ret
          exact ⟨rfl, hfr.alloc _⟩
        have q4 : c.at_ ≤ last := by
          refine Classical.byContradiction fun hx => ?_
          have : fitB length last c = true := by unfold fitB; exact decide_eq_true ⟨by omega, by omega, by omega, by omega, q5⟩
          rw [this] at hfit; cases hfit
        have p4 : decide (c.at_ ≤ last) = true := decide_eq_true q4
        by_cases hn : c.n = 0
        · have p5 : (c.n == 0) = true := by simpa using hn
          have p6 : (c.text == 0) = false := by simp; exact fun h => q5 ⟨hn, h⟩
          clear hfit q5 hn
          go_wp2_with fail
          go_ret
          exact ⟨rfl, hfr.alloc _⟩
        · have p5 : (c.n == 0) = false := by simpa using hn
          clear hfit q5 hn
          go_wp2_with fail
          go_ret
          exact ⟨rfl, hfr.alloc _⟩
    · have hbt : Hid (B = true) := by have := HFM.out; rw [List.drop_of_length_le (by omega)] at this; exact this.symm
      go_wp2_with fail
      go_ret
      exact ⟨by rw [hbt.out]; rfl, hfr⟩

theorem owned_rowE {e : TypeId} {w : World} {rv : Value} {rs : List Rw} (h : w.ownsRow 0 e 4 rv rs.length (rowCells rs)) {k : Nat} {r : Rw} (hx : rs[k]? = some r) :
    ∃ lb cap, rv = .slice (some ⟨lb, 0, none⟩) rs.length cap ∧ ∀ j u, r.vals[j]? = some u → w.cell? ⟨lb, k * 4 + j, none⟩ = some u := by
  have hlt : k < rs.length := (List.getElem?_eq_some_iff.1 hx).1
  obtain ⟨lb, cap, hsv, _, _⟩ := h.form (by omega)
  refine ⟨lb, cap, hsv, fun j u hu => ?_⟩
  have hj : j < 4 := by have := (List.getElem?_eq_some_iff.1 hu).1; simpa [Rw.vals] using this
  rw [hsv] at h
  refine owns_cell h _ _ ?_
  rw [rowCells, flat_get Rw.vals 4 rs (fun _ _ => rfl) k j hj r hx]
  exact hu

/-- Rows of the reference that the call has made. -/
structure RRel (w wr : World) (v : Value) (rs : List Rw) : Prop where
  frame : Fr0 w wr
  own : wr.ownsRow 0 52 4 v rs.length (rowCells rs)
  new : ∀ k, v.ownBlock = some k → w.heap.size ≤ k

theorem RRel.same {w wr w' : World} {v : Value} {rs : List Rw} (h : RRel w wr v rs) (hf : Fr0 wr w') : RRel w w' v rs := ⟨h.frame.trans hf, hf.owns h.own, h.new⟩

theorem RRel.join {w wr : World} {lb cap : Nat} {rs : List Rw} {r : Rw} {len ver org : Int} (h : RRel w wr (.slice (some ⟨lb, 0, none⟩) rs.length cap) rs) (hg : rs.getLast? = some r) (he : r.ver = ver ∧ r.org + r.n = org) :
    RRel w (wr.setCell ⟨lb, (rs.length - 1) * 4 + 1, none⟩ (.int .i64 (r.n + 1))) (.slice (some ⟨lb, 0, none⟩) rs.length cap) (addRow rs len 1 ver org) ∧ (addRow rs len 1 ver org).length = rs.length := by
  have hne : rs ≠ [] := by rintro rfl; cases hg
  have hel : rs.dropLast ++ [r] = rs := by
    have h1 := List.dropLast_concat_getLast hne
    rw [List.getLast?_eq_some_getLast hne] at hg
    rw [Option.some.inj hg] at h1
    exact h1
  have hadd : addRow rs len 1 ver org = rs.dropLast ++ [⟨r.fr, r.n + 1, r.ver, r.org⟩] := by
    unfold addRow; rw [if_neg (by omega), hg]; exact if_pos he
  have hll : rs.length = rs.dropLast.length + 1 := by rw [← hel]; simp
  have hlen : (rs.dropLast ++ [(⟨r.fr, r.n + 1, r.ver, r.org⟩ : Rw)]).length = rs.length := by simp; omega
  rw [hadd]
  refine ⟨⟨h.frame.setCell _ _ (h.new lb rfl), ?_, h.new⟩, hlen⟩
  rw [hlen]
  have h1 := owns_set_own h.own ((rs.length - 1) * 4 + 1) (.int .i64 (r.n + 1)) (by rw [h.own.1]; omega)
  have h2 : (rowCells rs).set ((rs.length - 1) * 4 + 1) (.int .i64 (r.n + 1)) = rowCells (rs.dropLast ++ [⟨r.fr, r.n + 1, r.ver, r.org⟩]) := by
    rw [← rowCells_set rs.dropLast r (r.n + 1), hel, hll]; rfl
  rw [h2] at h1
  exact h1

theorem RRel.push {w W w1 : World} {v : Value} {rs : List Rw} {len ver org : Int} {g cap : Nat} (h : RRel w W v rs) (hadd : addRow rs len 1 ver org = rs ++ [⟨len, 1, ver, org⟩]) {o : Obj}
    (hown1 : w1.ownsRow 0 52 4 (.slice (some ⟨g, 0, none⟩) (rs.length + 1) cap) (rs.length + 1) (rowCells rs ++ [.int .i64 len, .int .i64 1, .int .i64 ver, .int .i64 org])) (hgrow : (W.alloc o).drew.grownBy w1 v.ownBlock) (hat : v.ownBlock = some g ∨ g = W.heap.size + 1) :
    RRel w w1 (.slice (some ⟨g, 0, none⟩) (rs.length + 1) cap) (addRow rs len 1 ver org) ∧ (addRow rs len 1 ver org).length = rs.length + 1 := by
  rw [hadd]
  refine ⟨⟨Fr.grown (Fr.drew (Fr.alloc h.frame o)) hgrow (fun j hj hlt => by have := h.new j hj; omega), ?_, ?_⟩, by simp⟩
  · have e1 : rowCells (rs ++ [⟨len, 1, ver, org⟩]) = rowCells rs ++ [.int .i64 len, .int .i64 1, .int .i64 ver, .int .i64 org] := by simp [rowCells, Rw.vals]
    rw [e1, List.length_append]
    exact hown1
  · intro k hk
    simp [Value.ownBlock] at hk
    subst hk
    have := h.frame.size'
    rcases hat with g1 | g1
    · exact h.new _ g1
    · omega

theorem info_rrow : (Try.prog.info? 52).map (fun i => (i.zero, i.size, i.bytes)) = some (some (.agg #[.int .i64 0, .int .i64 0, .int .i64 0, .int .i64 0]), 4, 32) := by kernel_rfl

set_option maxRecDepth 100000 in
set_option maxHeartbeats 2000000 in
theorem ref_Rows {w w00 : World} (tv : Value) (T : List Lt) (hT : LOwn w00 w tv T) (hTl : T.length ≤ 900000) (hLO : LOk T) :
    Calls Try.prog 17 #[tv] w fun e w' => ∃ v, e = .returned v ∧ w'.ownsRow 0 52 4 v (rowsOf T).length (rowCells (rowsOf T)) ∧ Fr0 w w' := by
  obtain ⟨ta, tcap, rfl⟩ := owns_form hT.own
  have HT := Lib.hid hT
  have HLO := Lib.hid hLO
  obtain ⟨i1, hi1, ha1, ha2, ha3⟩ := info_parts info_rrow
  have hu1 : Try.prog.underlying 48 = some (.slice 52) := Try.underlying48
  clear hT hLO
  go_enter Try.func17, Try.ntmps17
  go_wp2_with fail
  go_loopg [3, 4] T.length (fun gk v i wr => ∃ (k : Nat) (rs : List Rw), k + gk = T.length ∧ i = .int .i64 k ∧ rs.length ≤ k ∧ Hid (rowsOf (T.take k) = rs) ∧ (∃ a cap, v = .slice a rs.length cap) ∧ RRel w wr v rs)
  case atStart => exact ⟨0, [], by omega, rfl, by simp, rfl, ⟨none, 0, rfl⟩, ⟨Fr0.refl _, World.ownsRow_nil _ _ _ _, fun k hk => by simp [Value.ownBlock] at hk⟩⟩
  case round =>
    obtain ⟨k, rs, hk, rfl, hll, HL, ⟨va, vcap, rfl⟩, hS⟩ := hrel
    have hgk : gk + k = T.length := by omega
    clear hk
    have hfr := hS.frame
    by_cases hlt : k < T.length
    · obtain ⟨tb, tc, htv, x0, x1, ltb⟩ := (HT.out.kept0 hfr).cell hlt
      simp only [Value.slice.injEq] at htv
      obtain ⟨rfl, _, rfl⟩ := htv
      have HSN : Hid (rowsOf (T.take (k + 1)) = addRow rs (k : Int) 1 T[k].ver T[k].org) := by
        show _ = _
        rw [List.take_succ_eq_append_getElem hlt, rowsOf_snoc, HL.out]
        congr 1
        rw [List.length_take]; omega
      have hrok : ROk rs := by rw [← HL.out]; exact LOk.rows (fun l hl => HLO.out l (List.mem_of_mem_take hl))
      have hlo := HLO.out T[k] (List.getElem_mem _)
      have HS := Lib.hid hS
      have HROK := Lib.hid hrok
      clear hS HL hrok
      generalize T[k] = r at *
      unfold BB at hlo
      have hn63 : rs.length + 1 ≤ maxLen := by unfold maxLen; omega
      have hby : (rs.length + 1) * 32 ≤ 140737488355328 := by omega
      cases hg : rs.getLast? with
      | none =>
        have HADD : Hid (addRow rs (k : Int) 1 r.ver r.org = rs ++ [⟨k, 1, r.ver, r.org⟩]) := by
          show _ = _; rw [List.getLast?_eq_none_iff.1 hg]; simp [addRow]
        obtain rfl : rs = [] := List.getLast?_eq_none_iff.1 hg
        clear hg
        go_upto_region 6 with fail
        go_cut [48] (fun s wx => s = .bool false ∧ Fr0 wr wx)
        case first =>
          go_quiet (fail)
          go_wp2_with fail
          go_meet
          case rel => exact ⟨rfl, (Fr0.refl wr).drewN _⟩
        case rest =>
          obtain ⟨rfl, hf2⟩ := hcut
          have hS2 := HS.out.same hf2
          have x0' := (hf2.cell tb _ ltb).trans x0
          have x1' := (hf2.cell tb _ ltb).trans x1
          clear x0 x1
          go_upto_region 8 with fail
          have hS3 := hS2
          have HS3 := Lib.hid hS3
          have hown := hS2.own
          clear hS2 hS3
          go_region_law ((refine step_append_lies _ (by rfl) _ _ _ (by rfl) 0 52 i1 _ 4 32 hu1 hi1 ha1 ha2 ha3 rfl (by omega) _ ([] : List Rw).length (rowCells ([] : List Rw)) (by rfl) ((hown.alloc _).drew) ⟨wc.heap.size, 0, none⟩ 1 1 [.int .i64 k, .int .i64 1, .int .i64 r.ver, .int .i64 r.org] (by rfl) (by rfl) (World.news_of_block (cs := #[.int .i64 k, .int .i64 1, .int .i64 r.ver, .int .i64 r.org]) (t := 52) (fr := (0, 0)) (heap_alloc_new wc _)) (by simp [Value.oneCell']) (by omega) hn63 hby (by omega) (wc.heap.size + 1) (by simp) ?_; intro g cap' w1 hown1 hgrow hat hlt2))
          all_goals
            obtain ⟨j1, j2⟩ := HS3.out.push HADD.out hown1 hgrow hat
            go_wp2_with fail
            go_roundg (gk - 1)
            case measure => omega
            case rel => exact ⟨k + 1, addRow ([] : List Rw) k 1 r.ver r.org, by omega, by go_num, by rw [j2]; omega, HSN, ⟨some ⟨g, 0, none⟩, cap', by simp [j2]⟩, j1⟩
      | some s =>
        have hx : rs[rs.length - 1]? = some s := by rw [← List.getLast?_eq_getElem?]; exact hg
        have hpos : 0 < rs.length := by have := (List.getElem?_eq_some_iff.1 hx).1; omega
        obtain ⟨lb, vcap', hrv2, hc⟩ := owned_rowE HS.out.own hx
        simp only [Value.slice.injEq] at hrv2
        obtain ⟨rfl, _, rfl⟩ := hrv2
        have y1 := hc 1 _ rfl
        have y2 := hc 2 _ rfl
        have y3 := hc 3 _ rfl
        have hso := HROK.out s (List.mem_of_getLast? hg)
        unfold BB at hso
        have g1 : (0 : Int) ≤ (rs.length : Int) - 1 := by omega
        have g2 : (rs.length : Int) - 1 < (rs.length : Int) := by omega
        have g3 : (1 : Int) ≤ (rs.length : Int) := by omega
        have g4 : decide (1 ≤ rs.length) = true := decide_eq_true (by omega)
        have g5 := IntWalk.i64_in (s.org + s.n) (by omega)
        clear hc hx
        by_cases hv : s.ver = r.ver
        · have e1 : (s.ver == r.ver) = true := by simpa using hv
          by_cases ho : s.org + s.n = r.org
          · have e2 : (s.org + s.n == r.org) = true := by simpa using ho
            have HJ := Lib.hid (And.intro hg (And.intro hv ho))
            clear hg hv ho
            go_upto_region 6 with fail
            go_cut [48] (fun s wx => s = .bool true ∧ Fr0 wr wx)
            case first =>
              go_quiet (fail)
              go_wp2_with fail
              go_meet
              case rel => exact ⟨rfl, (Fr0.refl wr).drewN _⟩
            case rest =>
              obtain ⟨rfl, hf2⟩ := hcut
              have hS2 := HS.out.same hf2
              have x0' := (hf2.cell tb _ ltb).trans x0
              have x1' := (hf2.cell tb _ ltb).trans x1
              clear x0 x1
              have y1' := (hf2.cell lb _ (World.block_lt_of_cell? wr _ y1)).trans y1
              have hfz := owns_free hS2.own rfl
              have hlb' : lb < wc.heap.size := Nat.lt_of_lt_of_le (World.block_lt_of_cell? wr _ y1) hf2.size'
              have HJ2 := Lib.hid (hS2.join (len := (k : Int)) HJ.out.1 HJ.out.2)
              clear hS2 y1 y2 y3 e1 e2 g4 g5
              go_wp2_with fail
              obtain ⟨j1, j2⟩ := HJ2.out
              go_roundg (gk - 1)
              case measure => omega
              case rel => exact ⟨k + 1, addRow rs k 1 r.ver r.org, by omega, by go_num, by rw [j2]; omega, HSN, ⟨some ⟨lb, 0, none⟩, vcap, by rw [j2]⟩, j1⟩
          · have e2 : (s.org + s.n == r.org) = false := by simpa using ho
            have HADD : Hid (addRow rs (k : Int) 1 r.ver r.org = rs ++ [⟨k, 1, r.ver, r.org⟩]) := by
              show _ = _; unfold addRow; rw [if_neg (by omega), hg]; exact if_neg (fun h => ho h.2)
            clear hg hv ho
            go_upto_region 6 with fail
            go_cut [48] (fun s wx => s = .bool false ∧ Fr0 wr wx)
            case first =>
              go_quiet (fail)
              go_wp2_with fail
              go_meet
              case rel => exact ⟨rfl, (Fr0.refl wr).drewN _⟩
            case rest =>
              obtain ⟨rfl, hf2⟩ := hcut
              have hS2 := HS.out.same hf2
              have x0' := (hf2.cell tb _ ltb).trans x0
              have x1' := (hf2.cell tb _ ltb).trans x1
              clear x0 x1
              clear y1 y2 y3 e1 e2 g4 g5
              go_upto_region 8 with fail
              have hS3 := hS2
              have HS3 := Lib.hid hS3
              have hown := hS2.own
              clear hS2 hS3
              go_region_law ((refine step_append_lies _ (by rfl) _ _ _ (by rfl) 0 52 i1 _ 4 32 hu1 hi1 ha1 ha2 ha3 rfl (by omega) _ rs.length (rowCells rs) (by rfl) ((hown.alloc _).drew) ⟨wc.heap.size, 0, none⟩ 1 1 [.int .i64 k, .int .i64 1, .int .i64 r.ver, .int .i64 r.org] (by rfl) (by rfl) (World.news_of_block (cs := #[.int .i64 k, .int .i64 1, .int .i64 r.ver, .int .i64 r.org]) (t := 52) (fr := (0, 0)) (heap_alloc_new wc _)) (by simp [Value.oneCell']) (by omega) hn63 hby (by omega) (wc.heap.size + 1) (by simp) ?_; intro g cap' w1 hown1 hgrow hat hlt2))
              all_goals
                obtain ⟨j1, j2⟩ := HS3.out.push HADD.out hown1 hgrow hat
                go_wp2_with fail
                go_roundg (gk - 1)
                case measure => omega
                case rel => exact ⟨k + 1, addRow rs k 1 r.ver r.org, by omega, by go_num, by rw [j2]; omega, HSN, ⟨some ⟨g, 0, none⟩, cap', by simp [j2]⟩, j1⟩
        · have e1 : (s.ver == r.ver) = false := by simpa using hv
          have HADD : Hid (addRow rs (k : Int) 1 r.ver r.org = rs ++ [⟨k, 1, r.ver, r.org⟩]) := by
            show _ = _; unfold addRow; rw [if_neg (by omega), hg]; exact if_neg (fun h => hv h.1)
          clear hg hv
          go_upto_region 6 with fail
          go_cut [48] (fun s wx => s = .bool false ∧ Fr0 wr wx)
          case first =>
            go_quiet (fail)
            go_wp2_with fail
            go_meet
            case rel => exact ⟨rfl, (Fr0.refl wr).drewN _⟩
          case rest =>
            obtain ⟨rfl, hf2⟩ := hcut
            have hS2 := HS.out.same hf2
            have x0' := (hf2.cell tb _ ltb).trans x0
            have x1' := (hf2.cell tb _ ltb).trans x1
            clear x0 x1
            clear y1 y2 y3 e1 g4 g5
            go_upto_region 8 with fail
            have hS3 := hS2
            have HS3 := Lib.hid hS3
            have hown := hS2.own
            clear hS2 hS3
            go_region_law ((refine step_append_lies _ (by rfl) _ _ _ (by rfl) 0 52 i1 _ 4 32 hu1 hi1 ha1 ha2 ha3 rfl (by omega) _ rs.length (rowCells rs) (by rfl) ((hown.alloc _).drew) ⟨wc.heap.size, 0, none⟩ 1 1 [.int .i64 k, .int .i64 1, .int .i64 r.ver, .int .i64 r.org] (by rfl) (by rfl) (World.news_of_block (cs := #[.int .i64 k, .int .i64 1, .int .i64 r.ver, .int .i64 r.org]) (t := 52) (fr := (0, 0)) (heap_alloc_new wc _)) (by simp [Value.oneCell']) (by omega) hn63 hby (by omega) (wc.heap.size + 1) (by simp) ?_; intro g cap' w1 hown1 hgrow hat hlt2))
            all_goals
              obtain ⟨j1, j2⟩ := HS3.out.push HADD.out hown1 hgrow hat
              go_wp2_with fail
              go_roundg (gk - 1)
              case measure => omega
              case rel => exact ⟨k + 1, addRow rs k 1 r.ver r.org, by omega, by go_num, by rw [j2]; omega, HSN, ⟨some ⟨g, 0, none⟩, cap', by simp [j2]⟩, j1⟩
    · have hls : Hid (rowsOf T = rs) := by show _ = _; rw [← HL.out, List.take_of_length_le (by omega)]
      go_wp2_with fail
      go_ret
      exact ⟨_, rfl, by rw [hls.out]; exact hS.own, hfr⟩

end Go.Proofs.Ytbokcmkbnkncoaa

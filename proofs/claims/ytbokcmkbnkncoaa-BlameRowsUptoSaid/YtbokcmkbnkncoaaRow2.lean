/- The walk of world.patch. -/
import Derived.Test.YtbokcmkbnkncoaaVal2
import Derived.Test.YtbokcmkbnkncoaaRef1
import Derived.Deep.RegionLaw
import Derived.BigRegion
import Derived.Deep.DeepCutAuto
set_option linter.unusedSimpArgs false
set_option linter.unusedVariables false
namespace Go.Proofs.Ytbokcmkbnkncoaa
open Go.RowKit

/-- Which text a change picks. -/
def pk (t : Int) : Nat := ((wrap64 (t.tmod 10 + 10)).tmod 10).toNat

theorem pk_spec (t : Int) : pk t ≤ 9 ∧ (wrap64 (t.tmod 10 + 10)).tmod 10 = (pk t : Int) := by
  obtain ⟨m, h1, h2⟩ := pick_nat t
  unfold pk
  rw [h2]
  exact ⟨by simpa using h1, by simp⟩

def outC (ids : List Int) (pw : Int) (c : Chg) : Chg := if c.text = -1 then ⟨c.at_, c.n, -1⟩ else if c.text = -2 then ⟨c.at_, c.n, pw⟩ else ⟨c.at_, c.n, ids.getD (pk c.text) 0⟩
def modC (c : Chg) : Chg := ⟨c.at_, c.n, pk c.text⟩
def unkF (cs : List Chg) : Bool := cs.any fun c => c.text == -1
def powF (cs : List Chg) : Bool := cs.any fun c => c.text == -2
def codeF (cs : List Chg) : Int := if unkF cs then 1 else if powF cs then 4 else 0

theorem unkF_snoc (cs : List Chg) (c : Chg) : unkF (cs ++ [c]) = (unkF cs || (c.text == -1)) := by simp [unkF]
theorem powF_snoc (cs : List Chg) (c : Chg) : powF (cs ++ [c]) = (powF cs || (c.text == -2)) := by simp [powF]

structure COwn (e : TypeId) (w0 w : World) (v : Value) (xs : List Chg) : Prop where
  own : w.ownsRow 0 e 3 v xs.length (chgCells xs)
  new : ∀ k, v.ownBlock = some k → w0.heap.size ≤ k

theorem COwn.kept0 {e : TypeId} {w0 w w' : World} {v : Value} {xs : List Chg} (h : COwn e w0 w v xs) (hf : Fr0 w w') : COwn e w0 w' v xs := ⟨hf.owns h.own, h.new⟩
theorem COwn.nil (e : TypeId) (w0 w : World) : COwn e w0 w (.slice none 0 0) [] := ⟨World.ownsRow_nil _ _ _ _, fun k hk => by simp [Value.ownBlock] at hk⟩

theorem COwn.push {e : TypeId} {w0 W W' w1 : World} {v : Value} {xs : List Chg} {c : Chg} {g cap H n : Nat} (h : COwn e w0 W v xs) (hn : xs.length = n) (hF : Fr0 w0 W) (hW : Fr0 W W') (hgrow : W'.grownBy w1 v.ownBlock)
    (hown1 : w1.ownsRow 0 e 3 (.slice (some ⟨g, 0, none⟩) (n + 1) cap) (n + 1) (chgCells xs ++ [.int .i64 c.at_, .int .i64 c.n, .int .i64 c.text])) (hat : v.ownBlock = some g ∨ g = H) (hH : W.heap.size ≤ H) :
    COwn e w0 w1 (.slice (some ⟨g, 0, none⟩) (n + 1) cap) (xs ++ [c]) ∧ Fr0 w0 w1 := by
  subst hn
  refine ⟨⟨?_, ?_⟩, Fr.grown (hF.trans hW) hgrow (fun j hj hlt => by have := h.new j hj; omega)⟩
  · have e1 : chgCells (xs ++ [c]) = chgCells xs ++ [.int .i64 c.at_, .int .i64 c.n, .int .i64 c.text] := by simp [chgCells, Chg.vals]
    rw [e1, List.length_append]
    exact hown1
  · intro k hk
    simp [Value.ownBlock] at hk
    subst hk
    have := hF.size'
    rcases hat with g1 | g1
    · exact h.new _ g1
    · omega

theorem COwn.other {e e' : TypeId} {w0 W W' w1 : World} {v v' : Value} {xs ys : List Chg} (h' : COwn e' w0 W v' ys) (h : COwn e w0 W v xs) (hne : e' ≠ e) (hW : Fr0 W W') (hgrow : W'.grownBy w1 v.ownBlock) : COwn e' w0 w1 v' ys :=
  ⟨owns_grown hgrow (hW.owns h'.own) (fun k hk => owns_apart h'.own h.own hne k hk), h'.new⟩

theorem block_grown {W W1 : World} {k : Nat} {cs : Array Value} {t e : TypeId} {f : Nat × Nat} {b sz n : Nat} {v : Value} {xs : List Value} {W0 : World} (hg : W.grownBy W1 v.ownBlock) (h : W.heap[k]? = some (.cells cs t f)) (ho : W0.ownsRow b e sz v n xs) (hne : t ≠ e) (hW : Fr0 W0 W := by exact ((Fr0.refl _).alloc _).drew) : W1.heap[k]? = some (.cells cs t f) := by
  rw [hg.block k (lt_of_block h) ?_]
  · exact h
  · intro e1
    obtain ⟨cur, hc⟩ := owns_block ho e1.symm
    exact ne_of_types h (hW.kept hc) hne rfl

theorem info_rchg' : (Try.prog.info? 79).map (fun i => (i.zero, i.size, i.bytes)) = some (some (.agg #[.int .i64 0, .int .i64 0, .int .i64 0]), 3, 24) := by kernel_rfl

/-- What holds at each round's head. -/
structure PW (w wr : World) (ids : List Int) (pw : Int) (cs : List Chg) (k : Nat) (ov mv : Value) (U V : Bool) (M : List Chg) : Prop where
  frame : Fr0 w wr
  out : COwn 71 w wr ov ((cs.take k).map (outC ids pw))
  mod : COwn 79 w wr mv M
  few : M.length ≤ k
  unk : U = unkF (cs.take k)
  pow : V = powF (cs.take k)
  is : U = false → V = false → M = (cs.take k).map modC

def PatchPost (w : World) (ids : List Int) (pw : Int) (cs : List Chg) (e : Ending) (w' : World) : Prop :=
  ∃ ov ma mcap M, e = .returned (.tuple #[ov, .slice ma M.length mcap, .int .i64 (codeF cs)]) ∧ Fr0 w w' ∧ COwn 71 w w' ov (cs.map (outC ids pw)) ∧ COwn 79 w w' (.slice ma M.length mcap) M ∧ (codeF cs = 0 → M = cs.map modC)

theorem PW.done {w wr : World} {ids : List Int} {pw : Int} {cs : List Chg} {k : Nat} {ov mv : Value} {U V : Bool} {M : List Chg} (h : PW w wr ids pw cs k ov mv U V M) (hk : cs.length ≤ k) :
    COwn 71 w wr ov (cs.map (outC ids pw)) ∧ (U = true → codeF cs = 1) ∧ (U = false → V = true → codeF cs = 4) ∧ (U = false → V = false → codeF cs = 0 ∧ M = cs.map modC) := by
  obtain ⟨h1, h2, h3, h4, h5, h6, h7⟩ := h
  rw [List.take_of_length_le hk] at h2 h5 h6 h7
  refine ⟨h2, ?_, ?_, ?_⟩
  · rintro rfl; unfold codeF; rw [← h5]; rfl
  · rintro rfl rfl; unfold codeF; rw [← h5, ← h6]; rfl
  · rintro rfl rfl; exact ⟨by unfold codeF; rw [← h5, ← h6]; rfl, h7 rfl rfl⟩

theorem PW.unknown {w wr w1 : World} {ids : List Int} {pw : Int} {cs : List Chg} {k : Nat} {ov ov' mv : Value} {U V : Bool} {M : List Chg} {c : Chg} (h : PW w wr ids pw cs k ov mv U V M) (ht : cs.take (k + 1) = cs.take k ++ [c]) (h1 : c.text = -1)
    (ho : COwn 71 w w1 ov' ((cs.take k).map (outC ids pw) ++ [⟨c.at_, c.n, -1⟩])) (hm : COwn 79 w w1 mv M) (hf : Fr0 w w1) : PW w w1 ids pw cs (k + 1) ov' mv true V M := by
  have e : outC ids pw c = ⟨c.at_, c.n, -1⟩ := by unfold outC; rw [if_pos h1]
  refine ⟨hf, ?_, hm, by have := h.few; omega, ?_, ?_, fun h => by cases h⟩
  · rw [ht, List.map_append, List.map_singleton, e]; exact ho
  · rw [ht, unkF_snoc, h1]; simp
  · rw [ht, powF_snoc, h1, ← h.pow]; simp

theorem PW.power {w wr w1 : World} {ids : List Int} {pw : Int} {cs : List Chg} {k : Nat} {ov ov' mv : Value} {U V : Bool} {M : List Chg} {c : Chg} (h : PW w wr ids pw cs k ov mv U V M) (ht : cs.take (k + 1) = cs.take k ++ [c]) (h1 : c.text = -2)
    (ho : COwn 71 w w1 ov' ((cs.take k).map (outC ids pw) ++ [⟨c.at_, c.n, pw⟩])) (hm : COwn 79 w w1 mv M) (hf : Fr0 w w1) : PW w w1 ids pw cs (k + 1) ov' mv U true M := by
  have e : outC ids pw c = ⟨c.at_, c.n, pw⟩ := by unfold outC; rw [if_neg (by omega), if_pos h1]
  refine ⟨hf, ?_, hm, by have := h.few; omega, ?_, ?_, fun _ h => by cases h⟩
  · rw [ht, List.map_append, List.map_singleton, e]; exact ho
  · rw [ht, unkF_snoc, h1, ← h.unk]; simp
  · rw [ht, powF_snoc, h1]; simp

theorem PW.text {w wr w1 : World} {ids : List Int} {pw : Int} {cs : List Chg} {k : Nat} {ov ov' mv mv' : Value} {U V : Bool} {M : List Chg} {c : Chg} (h : PW w wr ids pw cs k ov mv U V M) (ht : cs.take (k + 1) = cs.take k ++ [c]) (h1 : c.text ≠ -1) (h2 : c.text ≠ -2)
    (ho : COwn 71 w w1 ov' ((cs.take k).map (outC ids pw) ++ [⟨c.at_, c.n, ids.getD (pk c.text) 0⟩])) (hm : COwn 79 w w1 mv' (M ++ [modC c])) (hf : Fr0 w w1) : PW w w1 ids pw cs (k + 1) ov' mv' U V (M ++ [modC c]) := by
  have e : outC ids pw c = ⟨c.at_, c.n, ids.getD (pk c.text) 0⟩ := by unfold outC; rw [if_neg h1, if_neg h2]
  refine ⟨hf, ?_, hm, by have := h.few; simp; omega, ?_, ?_, fun a b => ?_⟩
  · rw [ht, List.map_append, List.map_singleton, e]; exact ho
  · rw [ht, unkF_snoc, ← h.unk]; simp [h1]
  · rw [ht, powF_snoc, ← h.pow]; simp [h2]
  · rw [ht, List.map_append, List.map_singleton, ← h.is a b]

set_option maxRecDepth 100000 in
set_option maxHeartbeats 2000000 in
theorem law_patch {w0 w : World} {q p mb : Nat} {ids : List Int} {pw : Int} {L : List Ent} (hG : Begun w0 w q p mb ids pw L) (pa : Option Addr) (pcap : Nat) (cs : List Chg) (hc : ChgsAt w pa cs) (hl : cs.length ≤ 60) :
    Calls Try.prog 12 #[.pointer (some ⟨q, 0, none⟩), .slice pa cs.length pcap] w (PatchPost w ids pw cs) := by
  obtain ⟨i1, hi1, ha1, ha2, ha3⟩ := info_parts info_chg
  obtain ⟨i2, hi2, hb1, hb2, hb3⟩ := info_parts info_rchg'
  have hu1 : Try.prog.underlying 31 = some (.slice 71) := Try.underlying31
  have hu2 : Try.prog.underlying 32 = some (.slice 79) := Try.underlying32
  have HC := Lib.hid hc
  have HG := Lib.hid hG
  clear hc hG
  go_enter Try.func12, Try.ntmps12
  go_wp2_with fail
  go_loopg [7, 8, 9, 10, 16] cs.length (fun gk o m u v i wr => ∃ (k : Nat) (U V : Bool) (M : List Chg), k + gk = cs.length ∧ i = .int .i64 k ∧ u = .bool U ∧ v = .bool V ∧ (∃ a cap, o = .slice a k cap) ∧ (∃ a cap, m = .slice a M.length cap) ∧ PW w wr ids pw cs k o m U V M)
  case atStart => exact ⟨0, false, false, [], by omega, rfl, rfl, rfl, ⟨none, 0, rfl⟩, ⟨none, 0, rfl⟩, ⟨Fr0.refl _, COwn.nil _ _ _, COwn.nil _ _ _, by simp, rfl, rfl, fun _ _ => rfl⟩⟩
  case round =>
    obtain ⟨k, U, V, M, hk, rfl, rfl, rfl, ⟨oa, ocap, rfl⟩, ⟨ma, mcap, rfl⟩, hP⟩ := hrel
    have hgk : gk + k = cs.length := by omega
    clear hk
    have hfr := hP.frame
    have hfew := hP.few
    by_cases hlt : k < cs.length
    · obtain ⟨b, off, hab, lb, d0, d1, d2⟩ := (HC.out.kept0 hfr) k hlt
      subst hab
      have hts := List.take_succ_eq_append_getElem hlt
      have hOl : ((cs.take k).map (outC ids pw)).length = k := by simp; omega
      have HTS := Lib.hid hts
      have HP := Lib.hid hP
      have HOL := Lib.hid hOl
      clear hP hts hOl
      generalize cs[k] = c at *
      obtain ⟨W1, hW1⟩ : ∃ W1, wr.alloc (.cells #[.int .i64 c.at_, .int .i64 c.n, .int .i64 c.text] 92 (0, 0)) = W1 := ⟨_, rfl⟩
      have hf1 : Fr0 wr W1 := by rw [← hW1]; exact (Fr0.refl _).alloc _
      have hcb : W1.heap[wr.heap.size]? = some (.cells #[.int .i64 c.at_, .int .i64 c.n, .int .i64 c.text] 92 (0, 0)) := by rw [← hW1]; exact alloc_at _ _ _ rfl
      obtain ⟨y0, y1, y2, yf, yl⟩ := cells3 hcb
      have HF1 := Lib.hid hf1
      have HCB := Lib.hid hcb
      have HO1 := Lib.hid (HP.out.out.kept0 hf1)
      have HM1 := Lib.hid (HP.out.mod.kept0 hf1)
      have hown := HO1.out.own
      rw [HOL.out] at hown
      have hn63 : k + 1 ≤ maxLen := by unfold maxLen; omega
      have hby : (k + 1) * 24 ≤ 140737488355328 := by omega
      clear hcb hf1
      by_cases h1 : c.text = -1
      · have e1 : (c.text == -1) = true := by simpa using h1
        have H1 := Lib.hid h1
        clear h1
        go_upto_region 10 with fail
        try rw [hW1]
        clear hW1
        generalize wr.heap.size = sc at *
        go_wp2_with (at_builtin; refine wpList_append_lies _ rfl _ _ _ rfl 0 71 i1 _ 3 24 hu1 hi1 ha1 ha2 ha3 rfl (by omega) (.slice oa k ocap) k (chgCells ((cs.take k).map (outC ids pw))) rfl (hown.alloc _) ⟨W1.heap.size, 0, none⟩ 1 1 [.int .i64 c.at_, .int .i64 c.n, .int .i64 (-1)] rfl rfl (World.news_of_block (cs := #[.int .i64 c.at_, .int .i64 c.n, .int .i64 (-1)]) (t := 71) (fr := (0, 0)) (heap_alloc_new W1 _)) (by simp [Value.oneCell']) (by omega) hn63 hby (by omega) (W1.heap.size + 1) (by simp) ?_; intro g cap' w1 hown1 hgrow hat hlt2)
        obtain ⟨j1, j2⟩ := HO1.out.push (c := ⟨c.at_, c.n, -1⟩) HOL.out (hfr.trans HF1.out) ((Fr0.refl W1).alloc _) (by simpa [Value.ownBlock] using hgrow) hown1 (by simpa [Value.ownBlock] using hat) (by omega)
        have j3 := HM1.out.other HO1.out (by decide) ((Fr0.refl W1).alloc _) (by simpa [Value.ownBlock] using hgrow)
        go_roundg (gk - 1)
        case measure => omega
        case rel => exact ⟨k + 1, true, V, M, by omega, by go_num, rfl, rfl, ⟨_, _, rfl⟩, ⟨_, _, rfl⟩, HP.out.unknown HTS.out H1.out j1 j3 j2⟩
      · have e1 : (c.text == -1) = false := by simpa using h1
        by_cases h2 : c.text = -2
        · have e2 : (c.text == -2) = true := by simpa using h2
          have H2 := Lib.hid h2
          clear h1 h2
          obtain ⟨tv, hq, hT, htv⟩ := (HG.out.kept0 (hfr.trans HF1.out)).wptr
          obtain ⟨z0, z1, z2, zf, zl⟩ := cells3 hq
          clear hq hT htv
          go_upto_region 14 with fail
          try rw [hW1]
          clear hW1
          generalize wr.heap.size = sc at *
          go_cut [7] (fun v wx => (∃ g cap', v = .slice (some ⟨g, 0, none⟩) (k + 1) cap') ∧ COwn 71 w wx v ((cs.take k).map (outC ids pw) ++ [⟨c.at_, c.n, pw⟩]) ∧ COwn 79 w wx (.slice ma M.length mcap) M ∧ Fr0 w wx)
          case first =>
            go_region_law ((refine step_append_lies _ (by rfl) _ _ _ (by rfl) 0 71 i1 _ 3 24 hu1 hi1 ha1 ha2 ha3 rfl (by omega) (.slice oa k ocap) k (chgCells ((cs.take k).map (outC ids pw))) (by rfl) ((hown.alloc _).drew) ⟨W1.heap.size, 0, none⟩ 1 1 [.int .i64 c.at_, .int .i64 c.n, .int .i64 pw] (by rfl) (by rfl) (World.news_of_block (cs := #[.int .i64 c.at_, .int .i64 c.n, .int .i64 pw]) (t := 71) (fr := (0, 0)) (heap_alloc_new W1 _)) (by simp [Value.oneCell']) (by omega) hn63 hby (by omega) (W1.heap.size + 1) (by simp) ?_; intro g cap' w1 hown1 hgrow hat hlt2))
            all_goals
              obtain ⟨j1, j2⟩ := HO1.out.push (c := ⟨c.at_, c.n, pw⟩) HOL.out (hfr.trans HF1.out) ((Fr0.refl W1).alloc _).drew (by simpa [Value.ownBlock] using hgrow) hown1 (by simpa [Value.ownBlock] using hat) (by omega)
              have j3 := HM1.out.other HO1.out (by decide) ((Fr0.refl W1).alloc _).drew (by simpa [Value.ownBlock] using hgrow)
              go_wp2_with fail
              go_meet
              case rel => exact ⟨⟨g, cap', rfl⟩, j1, j3, j2⟩
          case rest =>
            obtain ⟨⟨g, cap', rfl⟩, j1, j3, j2⟩ := hcut
            go_wp2_with fail
            go_roundg (gk - 1)
            case measure => omega
            case rel => exact ⟨k + 1, U, true, M, by omega, by go_num, rfl, rfl, ⟨_, _, rfl⟩, ⟨_, _, rfl⟩, HP.out.power HTS.out H2.out j1 j3 j2⟩
        · have e2 : (c.text == -2) = false := by simpa using h2
          have H1 := Lib.hid h1
          have H2 := Lib.hid h2
          obtain ⟨hp9, hpk⟩ := pk_spec c.text
          clear h1 h2
          obtain ⟨tv, hq, hT, htv⟩ := (HG.out.kept0 (hfr.trans HF1.out)).wptr
          obtain ⟨z0, z1, z2, zf, zl⟩ := cells3 hq
          obtain ⟨tb, tcap, htv2, _, _⟩ := hT.form (by omega)
          subst htv2
          have t0 : W1.cell? ⟨tb, pk c.text, none⟩ = some (.int .i64 (ids.getD (pk c.text) 0)) := owns_cell hT _ _ (by rw [List.getElem?_map, List.getElem?_eq_getElem (by rw [HG.out.len]; omega)]; simp [List.getElem?_eq_getElem (show pk c.text < ids.length by rw [HG.out.len]; omega)])
          have tl0 := World.block_lt_of_cell? W1 _ t0
          clear hq hT htv
          have HPK := Lib.hid hpk
          clear hpk
          go_upto_region 8 with fail
          try rw [hW1]
          clear hW1
          generalize wr.heap.size = sc at *
          rw [HPK.out]
          have HMC : Hid (modC c = ⟨c.at_, c.n, (pk c.text : Int)⟩) := rfl
          generalize hidm : ids.getD (pk c.text) 0 = idm at *
          have HIDM := Lib.hid hidm
          clear hidm
          generalize hpm : pk c.text = m at *
          have HPM := Lib.hid hpm
          clear hpm
          have m0 : (0 : Int) ≤ (m : Int) := by omega
          have m9 : (m : Int) < 10 := by omega
          go_cut [7] (fun v wx => (∃ g cap', v = .slice (some ⟨g, 0, none⟩) (k + 1) cap') ∧ COwn 71 w wx v ((cs.take k).map (outC ids pw) ++ [⟨c.at_, c.n, idm⟩]) ∧ COwn 79 w wx (.slice ma M.length mcap) M ∧ Fr0 w wx ∧ wx.heap[sc]? = some (.cells #[.int .i64 c.at_, .int .i64 c.n, .int .i64 c.text] 92 (0, 0)))
          case first =>
            go_region_law ((refine step_append_lies _ (by rfl) _ _ _ (by rfl) 0 71 i1 _ 3 24 hu1 hi1 ha1 ha2 ha3 rfl (by omega) (.slice oa k ocap) k (chgCells ((cs.take k).map (outC ids pw))) (by rfl) ((hown.alloc _).drew) ⟨W1.heap.size, 0, none⟩ 1 1 [.int .i64 c.at_, .int .i64 c.n, .int .i64 idm] (by rfl) (by rfl) (World.news_of_block (cs := #[.int .i64 c.at_, .int .i64 c.n, .int .i64 idm]) (t := 71) (fr := (0, 0)) (heap_alloc_new W1 _)) (by simp [Value.oneCell']) (by omega) hn63 hby (by omega) (W1.heap.size + 1) (by simp) ?_; intro g cap' w1 hown1 hgrow hat hlt2))
            all_goals
              obtain ⟨j1, j2⟩ := HO1.out.push (c := ⟨c.at_, c.n, idm⟩) HOL.out (hfr.trans HF1.out) ((Fr0.refl W1).alloc _).drew (by simpa [Value.ownBlock] using hgrow) hown1 (by simpa [Value.ownBlock] using hat) (by omega)
              have j3 := HM1.out.other HO1.out (by decide) ((Fr0.refl W1).alloc _).drew (by simpa [Value.ownBlock] using hgrow)
              have j4 := block_grown hgrow (((Fr0.refl W1).alloc _).drew.kept HCB.out) HO1.out.own (by decide)
              go_wp2_with fail
              go_meet
              case rel => exact ⟨⟨g, cap', rfl⟩, j1, j3, j2, j4⟩
          case rest =>
            obtain ⟨⟨g, cap', rfl⟩, j1, j3, j2, j4⟩ := hcut
            obtain ⟨x0, x1, x2, xf, xl⟩ := cells3 j4
            have hMo := j3.own
            have hm63 : M.length + 1 ≤ maxLen := by unfold maxLen; omega
            have hmy : (M.length + 1) * 24 ≤ 140737488355328 := by omega
            have J1 := Lib.hid j1
            have J3 := Lib.hid j3
            clear j1 j3 j4 y0 y1 y2 yf t0 z0 z1 z2 zf
            go_wp2_with (at_builtin; refine wpList_append_lies _ rfl _ _ _ rfl 0 79 i2 _ 3 24 hu2 hi2 hb1 hb2 hb3 rfl (by omega) (.slice ma M.length mcap) M.length (chgCells M) rfl (hMo.alloc _) ⟨wc.heap.size, 0, none⟩ 1 1 [.int .i64 c.at_, .int .i64 c.n, .int .i64 m] rfl rfl (World.news_of_block (cs := #[.int .i64 c.at_, .int .i64 c.n, .int .i64 m]) (t := 79) (fr := (0, 0)) (heap_alloc_new wc _)) (by simp [Value.oneCell']) (by omega) hm63 hmy (by omega) (wc.heap.size + 1) (by simp) ?_; intro g2 cap2 w2 hown2 hgrow2 hat2 hlt3)
            obtain ⟨k1, k2⟩ := J3.out.push (c := ⟨c.at_, c.n, (m : Int)⟩) rfl j2 ((Fr0.refl wc).alloc _) (by simpa [Value.ownBlock] using hgrow2) hown2 (by simpa [Value.ownBlock] using hat2) (by omega)
            have k3 := J1.out.other J3.out (by decide) ((Fr0.refl wc).alloc _) (by simpa [Value.ownBlock] using hgrow2)
            have KP := HP.out.text HTS.out H1.out H2.out (by rw [HPM.out, HIDM.out]; exact k3) (by rw [HMC.out]; exact k1) k2
            go_roundg (gk - 1)
            case measure => omega
            case rel => exact ⟨k + 1, U, V, M ++ [modC c], by omega, by go_num, rfl, rfl, ⟨_, _, rfl⟩, ⟨some ⟨g2, 0, none⟩, cap2, by simp⟩, KP⟩
    · obtain ⟨g1, g2, g3, g4⟩ := hP.done (by omega)
      have HO := Lib.hid g1
      have HM := Lib.hid hP.mod
      clear hP
      cases U with
      | true =>
        have HC1 := Lib.hid (g2 rfl)
        clear g1 g2 g3 g4
        go_wp2_with fail
        go_ret3
        exact ⟨_, none, 0, [], by rw [HC1.out]; rfl, hfr, HO.out, COwn.nil _ _ _, fun h => by rw [HC1.out] at h; cases h⟩
      | false =>
        cases V with
        | true =>
          have HC1 := Lib.hid (g3 rfl rfl)
          clear g1 g2 g3 g4
          go_wp2_with fail
          go_ret3
          exact ⟨_, none, 0, [], by rw [HC1.out]; rfl, hfr, HO.out, COwn.nil _ _ _, fun h => by rw [HC1.out] at h; cases h⟩
        | false =>
          have HC1 := Lib.hid (g4 rfl rfl)
          clear g1 g2 g3 g4
          go_wp2_with fail
          go_ret3
          exact ⟨_, ma, mcap, M, by rw [HC1.out.1]; rfl, hfr, HO.out, HM.out, fun _ => HC1.out.2⟩

end Go.Proofs.Ytbokcmkbnkncoaa

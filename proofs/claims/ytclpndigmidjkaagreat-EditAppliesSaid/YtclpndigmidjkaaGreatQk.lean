/- The walk of ref15.Balanced over any list of rules. -/
import Derived.Test.YtclpndigmidjkaaGreatQf
import Derived.Test.YtclpndigmidjkaaGreatQPaA
import Derived.Test.YtclpndigmidjkaaGreatQMk8
import Derived.Deep.DeepMust
import Derived.Test.YtclpndigmidjkaaGreatQh
import Derived.Test.YtclpndigmidjkaaGreatQg
import Derived.Test.YtclpndigmidjkaaGreatQj
import Derived.Test.YtclpndigmidjkaaGreatQEf4
import Derived.Test.YtclpndigmidjkaaGreatQPat6
set_option linter.unusedSimpArgs false
set_option linter.unusedVariables false
namespace Go.Proofs.YtclpndigmidjkaaGreat
open Go.RowKit

/-- The depths and the balance of a list of rules. -/
structure BalSem (rs : List Rl) (dp : Nat → Int) (gd : Nat → Bool) : Prop where
  d0 : dp 0 = 0
  g0 : gd 0 = true
  rule : ∀ i (h : i < rs.length), (rs[i].kind = 1 ∧ dp (i + 1) = 0 ∧ gd (i + 1) = true) ∨
    (∃ l m : Nat, rs[i].kind = 2 ∧ rs[i].left = (l : Int) ∧ rs[i].right = (m : Int) ∧ l ≤ i ∧ m ≤ i ∧ dp (i + 1) = 1 + max (dp l) (dp m) ∧ gd (i + 1) = (gd l && (gd m && (decide (dp l - dp m ≤ 1) && decide (dp m - dp l ≤ 1))))) ∨
    (∃ l : Nat, rs[i].kind = 3 ∧ rs[i].left = (l : Int) ∧ l ≤ i ∧ dp (i + 1) = 1 + dp l ∧ gd (i + 1) = false)
  bd : ∀ i, i ≤ rs.length → 0 ≤ dp i ∧ dp i ≤ 2000000

def dLs (dp : Nat → Int) (n k : Nat) : List Value := (List.range (n + 1)).map fun i => Value.int .i64 (if i ≤ k then dp i else 0)
def gLs (gd : Nat → Bool) (n k : Nat) : List Value := (List.range (n + 1)).map fun i => Value.bool (if i ≤ k then gd i else false)

theorem dLs_at (dp : Nat → Int) (n k i : Nat) (h : i ≤ k) (h2 : k ≤ n) : (dLs dp n k)[i]? = some (.int .i64 (dp i)) := by
  unfold dLs
  rw [List.getElem?_map, List.getElem?_range (by omega)]
  simp [h]
theorem gLs_at (gd : Nat → Bool) (n k i : Nat) (h : i ≤ k) (h2 : k ≤ n) : (gLs gd n k)[i]? = some (.bool (gd i)) := by
  unfold gLs
  rw [List.getElem?_map, List.getElem?_range (by omega)]
  simp [h]
theorem dLs_set (dp : Nat → Int) (n k : Nat) (h : k < n) : (dLs dp n k).set (k + 1) (.int .i64 (dp (k + 1))) = dLs dp n (k + 1) := by
  refine List.ext_getElem? fun i => ?_
  unfold dLs
  rw [List.getElem?_set, List.getElem?_map, List.getElem?_map]
  by_cases hi : i < n + 1
  · rw [List.getElem?_range hi]
    by_cases e : k + 1 = i
    · subst e; simp; omega
    · rw [if_neg e]
      simp only [Option.map_some]
      congr 2
      by_cases c : i ≤ k
      · rw [if_pos c, if_pos (by omega)]
      · rw [if_neg c, if_neg (by omega)]
  · rw [List.getElem?_eq_none (by simp; omega)]
    rw [if_neg (by omega)]; rfl
theorem gLs_set (gd : Nat → Bool) (n k : Nat) (h : k < n) : (gLs gd n k).set (k + 1) (.bool (gd (k + 1))) = gLs gd n (k + 1) := by
  refine List.ext_getElem? fun i => ?_
  unfold gLs
  rw [List.getElem?_set, List.getElem?_map, List.getElem?_map]
  by_cases hi : i < n + 1
  · rw [List.getElem?_range hi]
    by_cases e : k + 1 = i
    · subst e; simp; omega
    · rw [if_neg e]
      simp only [Option.map_some]
      congr 2
      by_cases c : i ≤ k
      · rw [if_pos c, if_pos (by omega)]
      · rw [if_neg c, if_neg (by omega)]
  · rw [List.getElem?_eq_none (by simp; omega)]
    rw [if_neg (by omega)]; rfl
theorem dLs_same (dp : Nat → Int) (n k : Nat) (h : k < n) (h0 : dp (k + 1) = 0) : dLs dp n k = dLs dp n (k + 1) := by
  refine List.map_congr_left fun i _ => ?_
  congr 1
  by_cases c : i ≤ k
  · rw [if_pos c, if_pos (by omega)]
  · rw [if_neg c]
    by_cases e : i = k + 1
    · subst e; rw [if_pos (Nat.le_refl _), h0]
    · rw [if_neg (by omega)]
theorem gLs_same (gd : Nat → Bool) (n k : Nat) (h : k < n) (h0 : gd (k + 1) = false) : gLs gd n k = gLs gd n (k + 1) := by
  refine List.map_congr_left fun i _ => ?_
  congr 1
  by_cases c : i ≤ k
  · rw [if_pos c, if_pos (by omega)]
  · rw [if_neg c]
    by_cases e : i = k + 1
    · subst e; rw [if_pos (Nat.le_refl _), h0]
    · rw [if_neg (by omega)]

theorem made_ints (n : Nat) : (madeCells (Value.int .i64 0).cells (n * 1)).toList = List.replicate n (.int .i64 0) := by
  unfold madeCells
  rw [show (Value.int .i64 0).cells = #[.int .i64 0] from rfl]
  simp [Nat.mod_one]
  apply List.ext_getElem <;> simp
theorem made_bools (n : Nat) : (madeCells (Value.bool false).cells (n * 1)).toList = List.replicate n (.bool false) := by
  unfold madeCells
  rw [show (Value.bool false).cells = #[.bool false] from rfl]
  simp [Nat.mod_one]
  apply List.ext_getElem <;> simp

/-- The state of the loop. -/
structure BaR (w wr : World) (n : Nat) (dp : Nat → Int) (gd : Nat → Bool) (db gb k : Nat) : Prop where
  fr : Fr0 w wr
  dl : wr.ownsRow w.heap.size 3 1 (.slice (some ⟨db, 0, none⟩) (n + 1) (n + 1)) (n + 1) (dLs dp n k)
  gl : wr.ownsRow w.heap.size 4 1 (.slice (some ⟨gb, 0, none⟩) (n + 1) (n + 1)) (n + 1) (gLs gd n k)

theorem dLs_zero (dp : Nat → Int) (n : Nat) (h : dp 0 = 0) : List.replicate (n + 1) (Value.int .i64 0) = dLs dp n 0 := by
  refine List.ext_getElem? fun i => ?_
  unfold dLs
  rw [List.getElem?_replicate, List.getElem?_map]
  by_cases hi : i < n + 1
  · rw [if_pos hi, List.getElem?_range hi]
    simp only [Option.map_some]
    by_cases c : i ≤ 0
    · obtain rfl : i = 0 := by omega
      rw [if_pos (Nat.le_refl _), h]
    · rw [if_neg c]
  · rw [if_neg hi, List.getElem?_eq_none (by simp; omega)]; rfl
theorem gLs_zero (gd : Nat → Bool) (n : Nat) (h : gd 0 = true) : (List.replicate (n + 1) (Value.bool false)).set 0 (.bool true) = gLs gd n 0 := by
  refine List.ext_getElem? fun i => ?_
  unfold gLs
  rw [List.getElem?_set, List.getElem?_replicate, List.getElem?_map]
  by_cases hi : i < n + 1
  · rw [List.getElem?_range hi, if_pos hi]
    simp only [Option.map_some]
    by_cases c : i ≤ 0
    · obtain rfl : i = 0 := by omega
      simp [h]
    · rw [if_neg c, if_neg (by omega)]
  · rw [if_neg hi, List.getElem?_eq_none (by simp; omega), if_neg (by omega)]; rfl

theorem BaR.both {w wr : World} {n : Nat} {dp : Nat → Int} {gd : Nat → Bool} {db gb k : Nat} (h : BaR w wr n dp gd db gb k) : db ≠ gb := by
  intro e
  obtain ⟨c1, h1⟩ := owns_block h.dl rfl
  obtain ⟨c2, h2⟩ := owns_block h.gl rfl
  exact ne_of_types h1 h2 (by decide) e
theorem BaR.ge {w wr : World} {n : Nat} {dp : Nat → Int} {gd : Nat → Bool} {db gb k : Nat} (h : BaR w wr n dp gd db gb k) : w.heap.size ≤ db ∧ w.heap.size ≤ gb ∧ db < wr.heap.size ∧ gb < wr.heap.size := ⟨(h.dl.lt db rfl).1, (h.gl.lt gb rfl).1, (h.dl.lt db rfl).2, (h.gl.lt gb rfl).2⟩

/-- What can be read and written behind a frame. -/
theorem BaR.cells {w wr W : World} {n : Nat} {dp : Nat → Int} {gd : Nat → Bool} {db gb k : Nat} (h : BaR w wr n dp gd db gb k) (hf : Fr0 wr W) (hk : k ≤ n) : (∀ i, i ≤ k → W.cell? ⟨db, i, none⟩ = some (.int .i64 (dp i)) ∧ W.cell? ⟨gb, i, none⟩ = some (.bool (gd i))) ∧
    (k < n → (∃ u, W.cell? ⟨db, k + 1, none⟩ = some (.int .i64 u)) ∧ (∃ u, W.cell? ⟨gb, k + 1, none⟩ = some (.bool u))) ∧ (∀ o, W.frozen? ⟨db, o, none⟩ = false) ∧ (∀ o, W.frozen? ⟨gb, o, none⟩ = false) ∧ db < W.heap.size ∧ gb < W.heap.size := by
  have d := hf.owns h.dl
  have g := hf.owns h.gl
  obtain ⟨c1, h1⟩ := owns_block d rfl
  obtain ⟨c2, h2⟩ := owns_block g rfl
  refine ⟨fun i hi => ⟨owns_cell d i _ (dLs_at dp n k i hi hk), owns_cell g i _ (gLs_at gd n k i hi hk)⟩, fun hlt => ⟨⟨_, owns_cell d (k + 1) _ (by unfold dLs; rw [List.getElem?_map, List.getElem?_range (by omega)]; rfl)⟩, ⟨_, owns_cell g (k + 1) _ (by unfold gLs; rw [List.getElem?_map, List.getElem?_range (by omega)]; rfl)⟩⟩, fun o => frozen_of_block h1 o, fun o => frozen_of_block h2 o, lt_of_block h1, lt_of_block h2⟩

theorem own_ne {g h n c : Nat} (e : g ≠ h) : (Value.slice (some ⟨g, 0, none⟩) n c).ownBlock ≠ some h := by simp [Value.ownBlock, e]

theorem BaR.one {w wr W : World} {n : Nat} {dp : Nat → Int} {gd : Nat → Bool} {db gb k : Nat} (h : BaR w wr n dp gd db gb k) (hf : Fr0 wr W) (hk : k < n) (hd : dp (k + 1) = 0) {v : Bool} (hv : gd (k + 1) = v) : BaR w (W.setCell ⟨gb, k + 1, none⟩ (.bool v)) n dp gd db gb (k + 1) := by
  refine ⟨(h.fr.trans hf).setCell _ _ h.ge.2.1, ?_, ?_⟩
  · rw [← dLs_same dp n k hk hd]
    exact owns_set_other (hf.owns h.dl) ⟨gb, k + 1, none⟩ _ (own_ne h.both)
  · rw [← gLs_set gd n k hk, hv]
    exact owns_set (hf.owns h.gl) _ _
theorem BaR.three {w wr W : World} {n : Nat} {dp : Nat → Int} {gd : Nat → Bool} {db gb k : Nat} (h : BaR w wr n dp gd db gb k) (hf : Fr0 wr W) (hk : k < n) (hg : gd (k + 1) = false) {v : Int} (hv : dp (k + 1) = v) : BaR w (W.setCell ⟨db, k + 1, none⟩ (.int .i64 v)) n dp gd db gb (k + 1) := by
  refine ⟨(h.fr.trans hf).setCell _ _ h.ge.1, ?_, ?_⟩
  · rw [← dLs_set dp n k hk, hv]
    exact owns_set (hf.owns h.dl) _ _
  · rw [← gLs_same gd n k hk hg]
    exact owns_set_other (hf.owns h.gl) ⟨db, k + 1, none⟩ _ (own_ne (Ne.symm h.both))
theorem BaR.two {w wr W : World} {n : Nat} {dp : Nat → Int} {gd : Nat → Bool} {db gb k : Nat} (h : BaR w wr n dp gd db gb k) (hf : Fr0 wr W) (hk : k < n) {u : Bool} (hu : gd (k + 1) = u) {v : Int} (hv : dp (k + 1) = v) : BaR w ((W.setCell ⟨gb, k + 1, none⟩ (.bool u)).setCell ⟨db, k + 1, none⟩ (.int .i64 v)) n dp gd db gb (k + 1) := by
  refine ⟨((h.fr.trans hf).setCell _ _ h.ge.2.1).setCell _ _ h.ge.1, ?_, ?_⟩
  · rw [← dLs_set dp n k hk, hv]
    exact owns_set (owns_set_other (hf.owns h.dl) ⟨gb, k + 1, none⟩ _ (own_ne h.both)) _ _
  · rw [← gLs_set gd n k hk, hu]
    exact owns_set_other (owns_set (hf.owns h.gl) _ _) ⟨db, k + 1, none⟩ _ (own_ne (Ne.symm h.both))

set_option maxRecDepth 100000 in
set_option maxHeartbeats 4000000 in
theorem ref15_Balanced {w : World} {a : Option Addr} {cap B : Nat} {rs : List Rl} {dp : Nat → Int} {gd : Nat → Bool} (hR : RG Rl.vals 5 B w a rs) (hl : rs.length ≤ 1000000) (hs : BalSem rs dp gd) :
    Calls Tryz.prog 105 #[.slice a rs.length cap] w fun e w' => e = .returned (.bool (gd rs.length)) ∧ Fr0 w w' := by
  obtain ⟨i0, hi0, hz0, hz1, hz2⟩ := info_parts info_int
  obtain ⟨j0, hj0, hy0, hy1, hy2⟩ := info_parts info_bool
  have hu : Tryz.prog.underlying 32 = some (.slice 3) := Tryz.underlying32
  have hv : Tryz.prog.underlying 37 = some (.slice 4) := Tryz.underlying37
  have b2 : i0.bytes * (rs.length + 1) ≤ 281474976710656 := by rw [hz2]; omega
  have b4 : j0.bytes * (rs.length + 1) ≤ 281474976710656 := by rw [hy2]; omega
  have b3 : rs.length + 1 ≤ maxLen := by unfold maxLen; omega
  have HR := Lib.hid hR
  have HS := Lib.hid hs
  clear hR hs
  go_enter Tryz.func105, Tryz.ntmps105
  go_wp2_with (first
    | (at_make; refine wpList_make_full _ rfl _ _ 32 rfl w.heap.size 3 i0 _ 1 hu hi0 hz0 hz1 .i64 .i64 _ _ (rs.length + 1) rfl rfl (by simp) (by simp) b2 b3 (Nat.le_refl _) ?_; intro w1 hown hgrow; rw [made_ints] at hown; have HO1 := Lib.hid hown; have HG1 := Lib.hid hgrow; have hsz1 : w.heap.size ≤ w1.heap.size := hgrow.size; clear hown hgrow)
    | (at_make; go_must (refine wpList_make_full _ rfl _ _ 37 rfl w.heap.size 4 j0 _ 1 hv hj0 hy0 hy1 .i64 .i64 _ _ (rs.length + 1) rfl rfl (by simp) (by simp) b4 b3 hsz1 ?_; intro w2 hown hgrow; rw [made_bools] at hown; have HO2 := Lib.hid hown; have HG2 := Lib.hid hgrow; have x0 : w2.cell? ⟨w1.heap.size, 0, none⟩ = some (.bool false) := owns_cell HO2.out 0 _ (by simp); have x1 : w2.frozen? ⟨w1.heap.size, 0, none⟩ = false := frozen_of_block (owns_block HO2.out rfl).choose_spec 0; clear hown hgrow)))
  have f1 : Fr0 w w1 := Fr.grown (Fr0.refl w) HG1.out (fun k hk => by cases hk)
  have f2 : Fr0 w1 w2 := Fr.grown (Fr0.refl w1) HG2.out (fun k hk => by cases hk)
  have H0 : Hid (BaR w (w2.setCell ⟨w1.heap.size, 0, none⟩ (.bool true)) rs.length dp gd w.heap.size w1.heap.size 0) := by
    have hne : w.heap.size ≠ w1.heap.size := by
      intro e
      obtain ⟨c1, h1⟩ := owns_block (f2.owns HO1.out) rfl
      obtain ⟨c2, h2⟩ := owns_block HO2.out rfl
      exact ne_of_types h1 h2 (by decide) e
    refine ⟨(f1.trans f2).setCell _ _ hsz1, ?_, ?_⟩
    · rw [← dLs_zero dp rs.length HS.out.d0]
      exact owns_set_other (f2.owns HO1.out) ⟨w1.heap.size, 0, none⟩ _ (own_ne hne)
    · rw [← gLs_zero gd rs.length HS.out.g0]
      exact owns_set HO2.out _ _
  clear f1 f2 HO1 HO2 HG1 HG2 x0 x1 hsz1 b2 b3 b4 hu hv hi0 hz0 hz1 hz2 hj0 hy0 hy1 hy2
  generalize w1.heap.size = gb at *
  obtain ⟨db, hdb⟩ : ∃ db, w.heap.size = db := ⟨_, rfl⟩
  rw [hdb] at H0 ⊢
  clear hdb
  go_loopw [5] (fun i wr => ∃ k : Nat, k ≤ rs.length ∧ i = .int .i64 k ∧ BaR w wr rs.length dp gd db gb k) (fun i _ => rs.length - (intOf i).toNat)
  case atStart => exact ⟨0, Nat.zero_le _, rfl, H0.out⟩
  case round =>
    clear H0
    obtain ⟨k, hk, rfl, hr⟩ := hrel
    by_cases hlt : k < rs.length
    · obtain ⟨b, off, rfl, lb, _, hc⟩ := (HR.out.kept0 hr.fr) k hlt
      have c0 := hc 0 _ rfl
      have c1 := hc 1 _ rfl
      have c2 := hc 2 _ rfl
      have c3 := hc 3 _ rfl
      have c4 := hc 4 _ rfl
      rw [Nat.add_zero] at c0
      have hrule := HS.out.rule k hlt
      have HBD := Lib.hid HS.out.bd
      have HRR := Lib.hid hr
      have q1 : (0 : Int) ≤ (k : Int) := by omega
      have q2 : (k : Int) < (rs.length : Int) := by omega
      clear hc hr
      generalize rs[k] = R at *
      obtain ⟨rk, rb, rl, rr, rt⟩ := R
      dsimp only at *
      obtain ⟨hcd, hnx, fzd, fzg, ld, lg⟩ := HRR.out.cells ((Fr0.refl wr).alloc (.cells #[.int .i64 rk, .int .u8 rb, .int .i64 rl, .int .i64 rr, .int .i64 rt] 132 (0, 0))) hk
      obtain ⟨⟨ud, hud⟩, ⟨ug, hug⟩⟩ := hnx hlt
      rcases hrule with ⟨h1, h2, h3⟩ | ⟨l, m, h1, h2, h3, h4, h5, h6, h7⟩ | ⟨l, h1, h2, h3, h4, h5⟩
      · subst h1
        have HN := Lib.hid (HRR.out.one ((Fr0.refl wr).alloc (.cells #[.int .i64 1, .int .u8 rb, .int .i64 rl, .int .i64 rr, .int .i64 rt] 132 (0, 0))) hlt h2 h3)
        clear hcd hnx h2 h3
        go_wp2_with fail
        go_roundw
        case rel => exact ⟨k + 1, by omega, by go_num, HN.out⟩
        case measure => simp [intOf]; omega
      · subst h1
        subst h2
        subst h3
        obtain ⟨hdl, hgl⟩ := hcd l h4
        obtain ⟨hdm, hgm⟩ := hcd m h5
        obtain ⟨n0, n1⟩ := HBD.out l (by omega)
        obtain ⟨n2, n3⟩ := HBD.out m (by omega)
        have HG := Lib.hid h7
        have HD := Lib.hid h6
        have x1 : (0 : Int) ≤ (l : Int) := by omega
        have x2 : (l : Int) < (rs.length : Int) + 1 := by omega
        have x3 : (0 : Int) ≤ (m : Int) := by omega
        have x4 : (m : Int) < (rs.length : Int) + 1 := by omega
        clear hcd hnx h6 h7
        generalize dp l = dl at *
        generalize dp m = dm at *
        generalize gd l = xl at *
        generalize gd m = xm at *
        have HV := HD
        have hne := HRR.out.both
        have hne2 : gb ≠ db := Ne.symm hne
        clear HD
        cases xl with
        | false =>
          have HU := Lib.hid (show gd (k + 1) = false from by rw [HG.out]; simp [*])
          have HN := Lib.hid (fun nq => HRR.out.two (((Fr0.refl wr).alloc (.cells #[.int .i64 2, .int .u8 rb, .int .i64 l, .int .i64 m, .int .i64 rt] 132 (0, 0))).drewN nq) hlt HU.out HV.out)
          clear HU
          go_wp2_with fail
          go_quiet (fail)
          go_wp2_with fail
          go_roundw
          case rel => exact ⟨k + 1, by omega, by go_num, HN.out nq⟩
          case measure => simp [intOf]; omega
        | true =>
          cases xm with
          | false =>
            have HU := Lib.hid (show gd (k + 1) = false from by rw [HG.out]; simp [*])
            have HN := Lib.hid (fun nq => HRR.out.two (((Fr0.refl wr).alloc (.cells #[.int .i64 2, .int .u8 rb, .int .i64 l, .int .i64 m, .int .i64 rt] 132 (0, 0))).drewN nq) hlt HU.out HV.out)
            clear HU
            go_wp2_with fail
            go_quiet (fail)
            go_wp2_with fail
            go_roundw
            case rel => exact ⟨k + 1, by omega, by go_num, HN.out nq⟩
            case measure => simp [intOf]; omega
          | true =>
            by_cases t1 : dl - dm ≤ 1
            · have w1 : decide (dl - dm ≤ 1) = true := decide_eq_true t1
              by_cases t2 : dm - dl ≤ 1
              · have w2 : decide (dm - dl ≤ 1) = true := decide_eq_true t2
                have HU := Lib.hid (show gd (k + 1) = true from by rw [HG.out]; simp [*])
                have HN := Lib.hid (fun nq => HRR.out.two (((Fr0.refl wr).alloc (.cells #[.int .i64 2, .int .u8 rb, .int .i64 l, .int .i64 m, .int .i64 rt] 132 (0, 0))).drewN nq) hlt HU.out HV.out)
                clear HU
                go_wp2_with fail
                go_quiet (fail)
                go_wp2_with fail
                go_roundw
                case rel => exact ⟨k + 1, by omega, by go_num, HN.out nq⟩
                case measure => simp [intOf]; omega
              · have w2 : decide (dm - dl ≤ 1) = false := decide_eq_false t2
                have HU := Lib.hid (show gd (k + 1) = false from by rw [HG.out]; simp [*])
                have HN := Lib.hid (fun nq => HRR.out.two (((Fr0.refl wr).alloc (.cells #[.int .i64 2, .int .u8 rb, .int .i64 l, .int .i64 m, .int .i64 rt] 132 (0, 0))).drewN nq) hlt HU.out HV.out)
                clear HU
                go_wp2_with fail
                go_quiet (fail)
                go_wp2_with fail
                go_roundw
                case rel => exact ⟨k + 1, by omega, by go_num, HN.out nq⟩
                case measure => simp [intOf]; omega
            · have w1 : decide (dl - dm ≤ 1) = false := decide_eq_false t1
              have HU := Lib.hid (show gd (k + 1) = false from by rw [HG.out]; simp [*])
              have HN := Lib.hid (fun nq => HRR.out.two (((Fr0.refl wr).alloc (.cells #[.int .i64 2, .int .u8 rb, .int .i64 l, .int .i64 m, .int .i64 rt] 132 (0, 0))).drewN nq) hlt HU.out HV.out)
              clear HU
              go_wp2_with fail
              go_quiet (fail)
              go_wp2_with fail
              go_roundw
              case rel => exact ⟨k + 1, by omega, by go_num, HN.out nq⟩
              case measure => simp [intOf]; omega
      · subst h1
        subst h2
        have hdl := (hcd l h3).1
        obtain ⟨n0, n1⟩ := HBD.out l (by omega)
        have HN := Lib.hid (HRR.out.three ((Fr0.refl wr).alloc (.cells #[.int .i64 3, .int .u8 rb, .int .i64 l, .int .i64 rr, .int .i64 rt] 132 (0, 0))) hlt h5 h4)
        have x1 : (0 : Int) ≤ (l : Int) := by omega
        have x2 : (l : Int) < (rs.length : Int) + 1 := by omega
        clear hcd hnx h4 h5
        generalize dp l = dl at *
        go_wp2_with fail
        go_roundw
        case rel => exact ⟨k + 1, by omega, by go_num, HN.out⟩
        case measure => simp [intOf]; omega
    · obtain rfl : k = rs.length := by omega
      obtain ⟨_, hgl⟩ := (hr.cells (Fr0.refl wr) (Nat.le_refl _)).1 rs.length (Nat.le_refl _)
      have F := Lib.hid hr.fr
      have q6 : decide ((rs.length : Int) < (rs.length : Int)) = false := decide_eq_false (by omega)
      have q7 : (rs.length : Int) < (rs.length : Int) + 1 := by omega
      clear hr
      go_wp2_with fail
      go_ret
      exact ⟨rfl, F.out⟩

end Go.Proofs.YtclpndigmidjkaaGreat

/- The exported rules' depths and balance, and the walk of law 36's balanced. -/
set_option linter.unusedSimpArgs false
set_option linter.unusedVariables false
namespace Go.Proofs.YtclpndigmidjkaaGreat
open Go.RowKit

theorem outs_last {L : List Ent} {id : Int} {out : List Int} (ho : Outs L id out) : out.getD (out.length - 1) 0 = id ∧ 0 < out.length := by
  obtain ⟨j, hj, ej⟩ := List.mem_iff_getElem.1 ho.mem
  have hj1 : out.length = j + 1 := by
    rcases Nat.lt_or_ge (j + 1) out.length with h | h
    · have h1 := List.pairwise_iff_getElem.1 ho.sorted j (j + 1) hj h (by omega)
      have h2 := ho.rng out[j + 1] (List.getElem_mem h)
      omega
    · omega
  rw [hj1, show j + 1 - 1 = j by omega, getD_at hj, ej]
  exact ⟨rfl, by omega⟩

theorem expo_balsem {L : List Ent} (hd : DOk L) (hs : SOk L) (hbig : L.length ≤ 1000000) {id : Int} (hk : isKnown L id) {out : List Int} (ho : Outs L id out) :
    BalSem (expo L out) (fun i => if i = 0 then 0 else (entAt L (out.getD (i - 1) 0)).depth) (fun i => if i = 0 then true else (entAt L (out.getD (i - 1) 0)).even) := by
  have hel : (expo L out).length = out.length := by simp [expo]
  have hk2 := hk.2
  have hkn : ∀ y ∈ out, isKnown L y ∧ y ≠ 0 := fun y hy => by have := ho.rng y hy; exact ⟨⟨by omega, by omega⟩, by omega⟩
  refine ⟨rfl, rfl, fun i hi => ?_, fun i hi => ?_⟩
  · have hi' : i < out.length := by omega
    obtain ⟨hx1, hx2⟩ := hkn out[i] (List.getElem_mem hi')
    have hr : (expo L out)[i] = renum out (entAt L out[i]).rule := by simp [expo]
    have e1 : (if i + 1 = 0 then (0 : Int) else (entAt L (out.getD (i + 1 - 1) 0)).depth) = (entAt L out[i]).depth := by
      rw [if_neg (by omega), show i + 1 - 1 = i by omega, getD_at hi']
    have e2 : (if i + 1 = 0 then true else (entAt L (out.getD (i + 1 - 1) 0)).even) = (entAt L out[i]).even := by
      rw [if_neg (by omega), show i + 1 - 1 = i by omega, getD_at hi']
    rw [e1, e2, hr]
    have key : ∀ y ∈ out, y < out[i] → ∃ l : Nat, numIn out y = (l : Int) ∧ l ≤ i ∧ (if l = 0 then (0 : Int) else (entAt L (out.getD (l - 1) 0)).depth) = (entAt L y).depth ∧ (if l = 0 then true else (entAt L (out.getD (l - 1) 0)).even) = (entAt L y).even := by
      intro y hy hlt
      obtain ⟨l, hl, hli, el⟩ := take_at (before_mem ho.sorted hi' hy hlt)
      have nl := numIn_get ho.nodup l hl
      rw [el] at nl
      refine ⟨l + 1, by rw [nl]; omega, by omega, ?_, ?_⟩
      · rw [if_neg (by omega), show l + 1 - 1 = l by omega, getD_at hl, el]
      · rw [if_neg (by omega), show l + 1 - 1 = l by omega, getD_at hl, el]
    rcases hd.at out[i] hx1 hx2 with ⟨g1, g2⟩ | ⟨g1, g2, g3⟩ | ⟨g1, g2, g3⟩
    · left
      refine ⟨g1, ?_, ?_⟩
      · exact congrArg Ent.depth g2
      · exact congrArg Ent.even g2
    · right; left
      have ml : (entAt L out[i]).rule.left ∈ out := ho.closed _ (List.getElem_mem hi') _ (by unfold refsR; rw [if_pos g1]; simp)
      have mr : (entAt L out[i]).rule.right ∈ out := ho.closed _ (List.getElem_mem hi') _ (by unfold refsR; rw [if_pos g1]; simp)
      obtain ⟨l, l1, l2, l3, l4⟩ := key _ ml g2.2.1
      obtain ⟨m, m1, m2, m3, m4⟩ := key _ mr g2.2.2.2
      refine ⟨l, m, g1, l1, m1, l2, m2, ?_, ?_⟩
      · show _ = 1 + max (if l = 0 then (0 : Int) else (entAt L (out.getD (l - 1) 0)).depth) (if m = 0 then (0 : Int) else (entAt L (out.getD (m - 1) 0)).depth)
        rw [l3, m3]
        exact congrArg Ent.depth g3
      · show _ = ((if l = 0 then true else (entAt L (out.getD (l - 1) 0)).even) && ((if m = 0 then true else (entAt L (out.getD (m - 1) 0)).even) && (decide ((if l = 0 then (0 : Int) else (entAt L (out.getD (l - 1) 0)).depth) - (if m = 0 then (0 : Int) else (entAt L (out.getD (m - 1) 0)).depth) ≤ 1) && decide ((if m = 0 then (0 : Int) else (entAt L (out.getD (m - 1) 0)).depth) - (if l = 0 then (0 : Int) else (entAt L (out.getD (l - 1) 0)).depth) ≤ 1))))
        rw [l3, m3, l4, m4]
        refine (congrArg Ent.even g3).trans ?_
        show ((entAt L (entAt L out[i]).rule.left).even && (entAt L (entAt L out[i]).rule.right).even && decide (-1 ≤ (entAt L (entAt L out[i]).rule.left).depth - (entAt L (entAt L out[i]).rule.right).depth) && decide ((entAt L (entAt L out[i]).rule.left).depth - (entAt L (entAt L out[i]).rule.right).depth ≤ 1)) = _
        generalize (entAt L (entAt L out[i]).rule.left).depth = a
        generalize (entAt L (entAt L out[i]).rule.right).depth = b
        rw [show decide (-1 ≤ a - b) = decide (b - a ≤ 1) from decide_eq_decide.2 (by omega)]
        cases (entAt L (entAt L out[i]).rule.left).even <;> cases (entAt L (entAt L out[i]).rule.right).even <;> cases decide (b - a ≤ 1) <;> cases decide (a - b ≤ 1) <;> rfl
    · right; right
      have ml : (entAt L out[i]).rule.left ∈ out := ho.closed _ (List.getElem_mem hi') _ (by unfold refsR; rw [if_neg (by omega), if_pos g1]; simp)
      obtain ⟨l, l1, l2, l3, l4⟩ := key _ ml g2.2
      refine ⟨l, g1, l1, l2, ?_, congrArg Ent.even g3⟩
      show _ = 1 + (if l = 0 then (0 : Int) else (entAt L (out.getD (l - 1) 0)).depth)
      rw [l3]
      exact congrArg Ent.depth g3
  · by_cases h0 : i = 0
    · subst h0; exact ⟨by simp, by simp⟩
    · have hi' : i - 1 < out.length := by omega
      show 0 ≤ (if i = 0 then (0 : Int) else (entAt L (out.getD (i - 1) 0)).depth) ∧ (if i = 0 then (0 : Int) else (entAt L (out.getD (i - 1) 0)).depth) ≤ 2000000
      rw [if_neg h0, getD_at hi']
      obtain ⟨hx1, hx2⟩ := hkn out[i - 1] (List.getElem_mem hi')
      have := hs.at _ hx1
      omega

theorem nil_balsem : BalSem [] (fun _ => 0) (fun _ => true) := ⟨rfl, rfl, fun i hi => by simp at hi, fun i hi => by simp⟩

set_option maxRecDepth 100000 in
set_option maxHeartbeats 1000000 in
theorem law36_balanced {w0 w : World} {q p mb : Nat} {rv lv va vi : Value} {L : List Ent} (h : Wd w0 w q p mb rv lv va vi L) (hO : SOk L) (hD : DOk L) (hBig : L.length ≤ 1000000) (id : Int) (hk : isKnown L id) :
    Calls Tryz.prog 76 #[.pointer (some ⟨q, 0, none⟩), .int .i64 id] w fun e w' => e = .returned (.bool (entAt L id).even) ∧ Fr0 w w' := by
  have CE := Lib.hid (st_Export h.st hD hBig id hk)
  obtain ⟨c0, c1, c2, c3, c4, cf, lq⟩ := h.front
  have HX : Hid (∀ rs, ((id = 0 ∧ rs = []) ∨ (id ≠ 0 ∧ ∃ out, Outs L id out ∧ rs = expo L out)) → rs.length ≤ 1000000 ∧ ∃ dp gd, BalSem rs dp gd ∧ gd rs.length = (entAt L id).even) := by
    intro rs hrs
    rcases hrs with ⟨rfl, rfl⟩ | ⟨h0, out, ho, rfl⟩
    · exact ⟨by simp, _, _, nil_balsem, rfl⟩
    · have hel : (expo L out).length = out.length := by simp [expo]
      obtain ⟨hl, hp⟩ := outs_last ho
      refine ⟨?_, _, _, expo_balsem hD hO hBig hk ho, ?_⟩
      · have h1 := nodup_le id.toNat out ho.nodup (fun x hx => by have := ho.rng x hx; omega)
        have := hk.2
        omega
      · show (if (expo L out).length = 0 then true else (entAt L (out.getD ((expo L out).length - 1) 0)).even) = _
        rw [hel, if_neg (by omega), hl]
  clear h hO hD hk
  go_enter Tryz.func76, Tryz.ntmps76
  go_wp2_with fail
  refine CE.out.mono ?_
  rintro e w1 ⟨rs, v, rfl, hO1, hrs⟩
  obtain ⟨hlen, dp, gd, hsem, hgd⟩ := HX.out rs hrs
  have F1 := Lib.hid hO1.fr
  obtain ⟨a, cap, rfl, hg⟩ := rg_of_own (vals := Rl.vals) (size := 5) (B := 0) (w := w1) (fun _ _ => rfl) hO1.row (by decide) (by decide)
  have CB := Lib.hid (ref15_Balanced (cap := cap) hg hlen hsem)
  rw [hgd] at CB
  clear hO1 hrs hsem hgd hg CE HX c0 c1 c2 c3 c4 cf lq
  go_wp2_with fail
  refine CB.out.mono ?_
  rintro e w2 ⟨rfl, f2⟩
  go_wp2_with fail
  go_ret
  exact ⟨rfl, F1.out.trans f2⟩

end Go.Proofs.YtclpndigmidjkaaGreat

/- The walk of ref15.Bound. -/
set_option linter.unusedSimpArgs false
set_option linter.unusedVariables false
namespace Go.Proofs.YtclpndigmidjkaaGreat
open Go.RowKit

/-- The greatest depth of a balanced text of a length. -/
def IsBound (l : Int) (D : Nat) : Prop := (D = 0 ∨ (lst D : Int) ≤ l) ∧ l < (lst (D + 1) : Int)

theorem lst_lt (n : Nat) : lst n < lst (n + 1) := by
  cases n with
  | zero => decide
  | succ n => have := lst_pos n; simp only [lst]; omega

theorem IsBound.le {l : Int} {D : Nat} (h : IsBound l D) (hl : l ≤ 1152921504606846976) : D ≤ 86 := by
  by_cases c : D ≤ 86
  · exact c
  · have h1 : lst 87 ≤ lst D := lst_mono (by omega)
    rw [lst87] at h1
    rcases h.1 with h2 | h2 <;> omega

set_option maxRecDepth 100000 in
set_option maxHeartbeats 1000000 in
theorem ref15_Bound (l : Int) (w : World) (hl : l ≤ 1152921504606846976) (h0 : -9223372036854775808 ≤ l) :
    Calls Tryz.prog 45 #[.int .i64 l] w fun e w' => (∃ D : Nat, e = .returned (.int .i64 D) ∧ IsBound l D) ∧ w = w' := by
  go_enter Tryz.func45, Tryz.ntmps45
  go_wp2_with fail
  go_loop [3, 4, 5] (fun a b d => ∃ k : Nat, a = .int .i64 (lst k : Nat) ∧ b = .int .i64 (lst (k + 1) : Nat) ∧ d = .int .i64 k ∧ Hid (k = 0 ∨ (lst k : Int) ≤ l)) (fun _ b _ => (l + 1 - intOf b).toNat)
  case atStart => exact ⟨0, rfl, rfl, rfl, .inl rfl⟩
  case round =>
    obtain ⟨k, rfl, rfl, rfl, HK⟩ := hrel
    have hp := lst_pos k
    have hlt := lst_lt k
    have H2 : Hid (lst (k + 1 + 1) = lst (k + 1) + lst k) := rfl
    have H1 : Hid (lst (k + 1) = lst (k + 1)) := rfl
    have hkb : k ≤ 87 ∨ 1152921504606846976 < (lst k : Int) := by
      by_cases c : k ≤ 87
      · exact .inl c
      · right
        have h1 : lst 87 ≤ lst k := lst_mono (by omega)
        rw [lst87] at h1
        omega
    have hk2 : k ≤ 87 := by
      rcases hkb with h | h
      · exact h
      · rcases HK.out with h2 | h2 <;> omega
    clear hkb
    have HIB : Hid (¬ ((lst (k + 1) : Nat) : Int) ≤ l → IsBound l k) := fun h => ⟨HK.out, by omega⟩
    by_cases c : ((lst (k + 1) : Nat) : Int) ≤ l
    · have e1 : decide (((lst (k + 1) : Nat) : Int) ≤ l) = true := decide_eq_true c
      have HK2 : Hid (k + 1 = 0 ∨ ((lst (k + 1) : Nat) : Int) ≤ l) := .inr c
      generalize hA : lst k = A at *
      generalize hB : lst (k + 1) = Bv at *
      have HA := Lib.hid hA
      have HB := Lib.hid hB
      clear hA hB HIB
      go_wp2_with fail
      go_round
      case rel => exact ⟨k + 1, by rw [HB.out], by rw [H2.out]; go_num, by go_num, by rw [HB.out]; exact HK2.out⟩
      case measure => simp [intOf]; omega
    · have e1 : decide (((lst (k + 1) : Nat) : Int) ≤ l) = false := decide_eq_false c
      have HX := Lib.hid (HIB.out c)
      clear HIB
      generalize lst (k + 1) = Bv at *
      generalize lst k = A at *
      go_wp2_with fail
      go_ret
      exact ⟨⟨k, rfl, HX.out⟩, rfl⟩

end Go.Proofs.YtclpndigmidjkaaGreat

/- The walk of law 36's fits. -/
set_option linter.unusedSimpArgs false
set_option linter.unusedVariables false
namespace Go.Proofs.YtclpndigmidjkaaGreat
open Go.RowKit

set_option maxRecDepth 100000 in
set_option maxHeartbeats 1000000 in
theorem law36_fits {w0 w : World} {q p mb : Nat} {rv lv va vi : Value} {L : List Ent} (h : Wd w0 w q p mb rv lv va vi L) (hO : SOk L) (hD : DOk L) (hBig : L.length ≤ 1000000) {id : Int} {t : List Int} {d : Int} (hb : BalZ L id t d) :
    Calls Tryz.prog 44 #[.pointer (some ⟨q, 0, none⟩), .int .i64 id] w fun e w' => e = .returned (.bool true) ∧ Fr0 w w' := by
  have hlen := hb.len hD hO
  have hl1 := (hO.at id hb.known).1.len1
  have hl0 := (hO.at id hb.known).1.len0
  have CD := Lib.hid (sto_Depth h.st id hb.known)
  have CB := Lib.hid (fun W (hW : Fr0 w W) => law36_balanced (h.kept0 hW) hO hD hBig id hb.known)
  have CL := Lib.hid (fun W (hW : Fr0 w W) => law36_length (h.kept0 hW) id hb.known)
  have CN := Lib.hid (fun W => ref15_Bound (entAt L id).wt.len W hl1 (by omega))
  have HDP : Hid (∀ D : Nat, IsBound (entAt L id).wt.len D → (entAt L id).depth ≤ (D : Int)) := by
    intro D hB
    have := hb.deep hD hO (D := D) (by have := hB.2; omega)
    rw [hb.depth]
    exact this.2
  have d0 := (hO.at id hb.known).2.1
  rw [hb.even] at CB
  obtain ⟨c0, c1, c2, c3, c4, cf, lq⟩ := h.front
  clear h hO hD hb hlen
  generalize (entAt L id).wt = y at *
  generalize (entAt L id).depth = dd at *
  go_enter Tryz.func44, Tryz.ntmps44
  go_wp2_with fail
  refine CD.out.mono ?_
  rintro e w1 ⟨rfl, f1⟩
  go_wp2_with fail
  refine (CB.out _ f1).mono ?_
  rintro e w2 ⟨rfl, f2⟩
  have F2 := f1.trans f2
  clear f1 f2
  go_wp2_with fail
  refine (CL.out _ F2).mono ?_
  rintro e w3 ⟨rfl, f3⟩
  have F3 := F2.trans f3
  clear F2 f3
  go_wp2_with fail
  refine (CN.out _).mono ?_
  rintro e w4 ⟨⟨D, rfl, hB⟩, rfl⟩
  have e1 : decide (dd ≤ (D : Int)) = true := decide_eq_true (HDP.out D hB)
  clear hB
  go_wp2_with fail
  go_ret
  exact ⟨by first | rfl | simp, F3⟩

end Go.Proofs.YtclpndigmidjkaaGreat

/- The walk of law 36's bad. -/
set_option linter.unusedSimpArgs false
set_option linter.unusedVariables false
namespace Go.Proofs.YtclpndigmidjkaaGreat
open Go.RowKit

/-- The number of the error of Apply, and the new length. -/
def badE (L : List Ent) (id k a n t x : Int) : Int × Int :=
  if knownB L id = false ∨ knownB L x = false then (1, 0)
  else if frmB k n t x = false ∨ (entAt L id).even = false ∨ (entAt L x).even = false then (4, 0)
  else (errE (entAt L id).wt.len k a n t x (entAt L x).wt.len, valE (entAt L id).wt.len k a n t x (entAt L x).wt.len)

set_option maxRecDepth 100000 in
set_option maxHeartbeats 4000000 in
theorem law36_bad {w0 w : World} {q p mb : Nat} {rv lv va vi : Value} {L : List Ent} (h : Wd w0 w q p mb rv lv va vi L) (hO : SOk L) (hD : DOk L) (hBig : L.length ≤ 1000000) (id k a n t x : Int) :
    Calls Tryz.prog 42 #[.pointer (some ⟨q, 0, none⟩), .int .i64 id, .agg #[.int .i64 k, .int .i64 a, .int .i64 n, .int .i64 t, .int .i64 x]] w fun e w' => e = .returned (.tuple #[.int .i64 (badE L id k a n t x).1, .int .i64 (badE L id k a n t x).2]) ∧ Fr0 w w' := by
  have CU := Lib.hid (fun W (hW : Fr0 w W) y b hb => law36_unknown (h.kept0 hW) y b hb)
  have ub : ∀ y, (!knownB L y) = (decide (y < 0) || decide ((L.length : Int) < y)) := by
    intro y
    unfold knownB
    by_cases h0 : y < 0
    · rw [decide_eq_true h0, decide_eq_false (by omega)]; rfl
    · rw [decide_eq_false h0, Bool.false_or]
      by_cases h1 : (L.length : Int) < y
      · rw [decide_eq_true h1, decide_eq_false (by omega)]; rfl
      · rw [decide_eq_false h1, decide_eq_true (by omega)]; rfl
  cases ki : knownB L id with
  | false =>
    have C1 := Lib.hid (fun W (hW : Fr0 w W) => CU.out W hW id true (by rw [← ub, ki]; rfl))
    rw [show badE L id k a n t x = (1, 0) from if_pos (.inl ki)]
    clear h hO hD ki ub CU
    go_enter Tryz.func42, Tryz.ntmps42
    go_wp2_with fail
    refine (C1.out _ ((Fr0.refl w).alloc _)).mono ?_
    rintro e w' ⟨rfl, rfl⟩
    go_wp2_with fail
    go_ret2
    exact ⟨rfl, (Fr0.refl w).alloc _⟩
  | true =>
    have C1 := Lib.hid (fun W (hW : Fr0 w W) => CU.out W hW id false (by rw [← ub, ki]; rfl))
    cases kx : knownB L x with
    | false =>
      have C2 := Lib.hid (fun W (hW : Fr0 w W) => CU.out W hW x true (by rw [← ub, kx]; rfl))
      rw [show badE L id k a n t x = (1, 0) from if_pos (.inr kx)]
      clear h hO hD ki kx ub CU
      go_enter Tryz.func42, Tryz.ntmps42
      go_wp2_with fail
      refine (C1.out _ ((Fr0.refl w).alloc _)).mono ?_
      rintro e w' ⟨rfl, rfl⟩
      go_wp2_with fail
      refine (C2.out _ ((Fr0.refl w).alloc _)).mono ?_
      rintro e w' ⟨rfl, rfl⟩
      go_wp2_with fail
      go_ret2
      exact ⟨rfl, (Fr0.refl w).alloc _⟩
    | true =>
      have C2 := Lib.hid (fun W (hW : Fr0 w W) => CU.out W hW x false (by rw [← ub, kx]; rfl))
      have h1 := (knownB_iff L id).1 ki
      have h2 := (knownB_iff L x).1 kx
      have CF := Lib.hid (fun W => ref36_Formed k a n t x W)
      have CBI := Lib.hid (fun W (hW : Fr0 w W) => law36_balanced (h.kept0 hW) hO hD hBig id h1)
      have CBX := Lib.hid (fun W (hW : Fr0 w W) => law36_balanced (h.kept0 hW) hO hD hBig x h2)
      have hb0 : badE L id k a n t x = (if frmB k n t x = false ∨ (entAt L id).even = false ∨ (entAt L x).even = false then (4, 0) else (errE (entAt L id).wt.len k a n t x (entAt L x).wt.len, valE (entAt L id).wt.len k a n t x (entAt L x).wt.len)) := if_neg (by rw [ki, kx]; simp)
      rw [hb0]
      clear hb0 ub CU
      cases hf : frmB k n t x with
      | false =>
        rw [hf] at CF
        rw [if_pos (.inl rfl)]
        clear h hO hD ki kx h1 h2 hf CBI CBX
        go_enter Tryz.func42, Tryz.ntmps42
        go_wp2_with fail
        refine (C1.out _ ((Fr0.refl w).alloc _)).mono ?_
        rintro e w' ⟨rfl, rfl⟩
        go_wp2_with fail
        refine (C2.out _ ((Fr0.refl w).alloc _)).mono ?_
        rintro e w' ⟨rfl, rfl⟩
        go_wp2_with fail
        refine (CF.out _).mono ?_
        rintro e w2 ⟨rfl, f2⟩
        have hr2 := f2.kept (b := w.heap.size) (alloc_at w _ _ rfl)
        have F2 := ((Fr0.refl w).alloc _).trans f2
        obtain ⟨r1, r2, r3, r4, r5, lr⟩ := cells5 hr2
        clear f2
        go_wp2_with fail
        go_ret2
        exact ⟨rfl, F2⟩
      | true =>
        rw [hf] at CF
        cases ei : (entAt L id).even with
        | false =>
          rw [ei] at CBI
          rw [if_pos (.inr (.inl rfl))]
          clear h hO hD ki kx h1 h2 hf ei CBX
          go_enter Tryz.func42, Tryz.ntmps42
          go_wp2_with fail
          refine (C1.out _ ((Fr0.refl w).alloc _)).mono ?_
          rintro e w' ⟨rfl, rfl⟩
          go_wp2_with fail
          refine (C2.out _ ((Fr0.refl w).alloc _)).mono ?_
          rintro e w' ⟨rfl, rfl⟩
          go_wp2_with fail
          refine (CF.out _).mono ?_
          rintro e w2 ⟨rfl, f2⟩
          have hr2 := f2.kept (b := w.heap.size) (alloc_at w _ _ rfl)
          have F2 := ((Fr0.refl w).alloc _).trans f2
          obtain ⟨r1, r2, r3, r4, r5, lr⟩ := cells5 hr2
          clear f2
          go_wp2_with fail
          refine (CBI.out _ F2).mono ?_
          rintro e w3 ⟨rfl, f3⟩
          have hr3 := f3.kept hr2
          have F3 := F2.trans f3
          clear r1 r2 r3 r4 r5 lr hr2 f3
          obtain ⟨r1, r2, r3, r4, r5, lr⟩ := cells5 hr3
          go_wp2_with fail
          go_ret2
          exact ⟨rfl, F3⟩
        | true =>
          rw [ei] at CBI
          cases ex : (entAt L x).even with
          | false =>
            rw [ex] at CBX
            rw [if_pos (.inr (.inr rfl))]
            clear h hO hD ki kx h1 h2 hf ei ex
            go_enter Tryz.func42, Tryz.ntmps42
            go_wp2_with fail
            refine (C1.out _ ((Fr0.refl w).alloc _)).mono ?_
            rintro e w' ⟨rfl, rfl⟩
            go_wp2_with fail
            refine (C2.out _ ((Fr0.refl w).alloc _)).mono ?_
            rintro e w' ⟨rfl, rfl⟩
            go_wp2_with fail
            refine (CF.out _).mono ?_
            rintro e w2 ⟨rfl, f2⟩
            have hr2 := f2.kept (b := w.heap.size) (alloc_at w _ _ rfl)
            have F2 := ((Fr0.refl w).alloc _).trans f2
            obtain ⟨r1, r2, r3, r4, r5, lr⟩ := cells5 hr2
            clear f2
            go_wp2_with fail
            refine (CBI.out _ F2).mono ?_
            rintro e w3 ⟨rfl, f3⟩
            have hr3 := f3.kept hr2
            have F3 := F2.trans f3
            clear r1 r2 r3 r4 r5 lr hr2 f3
            obtain ⟨r1, r2, r3, r4, r5, lr⟩ := cells5 hr3
            go_wp2_with fail
            refine (CBX.out _ F3).mono ?_
            rintro e w4 ⟨rfl, f4⟩
            have hr4 := f4.kept hr3
            have F4 := F3.trans f4
            clear r1 r2 r3 r4 r5 lr hr3 f4
            obtain ⟨r1, r2, r3, r4, r5, lr⟩ := cells5 hr4
            go_wp2_with fail
            go_ret2
            exact ⟨rfl, F4⟩
          | true =>
            rw [ex] at CBX
            rw [if_neg (by simp)]
            have CL0 := fun W y (hW : Fr0 w W) (hk : isKnown L y) => law36_length (h.kept0 hW) y hk
            have hwi := (hO.at id h1).1
            have hwt := (hO.at x h2).1
            have hx0 : x = 0 → (entAt L x).wt.len = 0 := by rintro rfl; rfl
            have CR := Lib.hid (fun W => ref36_Length (entAt L id).wt.len k a n t x (entAt L x).wt.len W hwi.len0 hwi.len1 hwt.len0 hwt.len1 hx0)
            have HL0 := Lib.hid (fun W y (hW : Fr0 w W) (hy : y = id ∨ y = x) => CL0 W y hW (by rcases hy with rfl | rfl; exact h1; exact h2))
            generalize hV : valE (entAt L id).wt.len k a n t x (entAt L x).wt.len = V at *
            generalize hZ : errE (entAt L id).wt.len k a n t x (entAt L x).wt.len = Z at *
            clear hO hD ki kx h1 h2 hf ei ex hwi hwt hx0 CL0 hV hZ
            go_enter Tryz.func42, Tryz.ntmps42
            go_wp2_with fail
            refine (C1.out _ ((Fr0.refl w).alloc _)).mono ?_
            rintro e w' ⟨rfl, rfl⟩
            go_wp2_with fail
            refine (C2.out _ ((Fr0.refl w).alloc _)).mono ?_
            rintro e w' ⟨rfl, rfl⟩
            go_wp2_with fail
            refine (CF.out _).mono ?_
            rintro e w2 ⟨rfl, f2⟩
            have hr2 := f2.kept (b := w.heap.size) (alloc_at w _ _ rfl)
            have F2 := ((Fr0.refl w).alloc _).trans f2
            obtain ⟨r1, r2, r3, r4, r5, lr⟩ := cells5 hr2
            clear f2
            go_wp2_with fail
            refine (CBI.out _ F2).mono ?_
            rintro e w3 ⟨rfl, f3⟩
            have hr3 := f3.kept hr2
            have F3 := F2.trans f3
            clear r1 r2 r3 r4 r5 lr hr2 f3
            obtain ⟨r1, r2, r3, r4, r5, lr⟩ := cells5 hr3
            go_wp2_with fail
            refine (CBX.out _ F3).mono ?_
            rintro e w4 ⟨rfl, f4⟩
            have hr4 := f4.kept hr3
            have F4 := F3.trans f4
            clear r1 r2 r3 r4 r5 lr hr3 f4
            obtain ⟨r1, r2, r3, r4, r5, lr⟩ := cells5 hr4
            have HKEY : Hid (∀ W, Fr0 w4 W → Fr0 w4 W ∧ W.cell? ⟨w.heap.size, 0, none⟩ = some (.int .i64 k) ∧ W.cell? ⟨w.heap.size, 1, none⟩ = some (.int .i64 a) ∧ W.cell? ⟨w.heap.size, 2, none⟩ = some (.int .i64 n) ∧ W.cell? ⟨w.heap.size, 3, none⟩ = some (.int .i64 t) ∧ W.cell? ⟨w.heap.size, 4, none⟩ = some (.int .i64 x)) := fun W hW => ⟨hW, (cells5 (hW.kept hr4)).1, (cells5 (hW.kept hr4)).2.1, (cells5 (hW.kept hr4)).2.2.1, (cells5 (hW.kept hr4)).2.2.2.1, (cells5 (hW.kept hr4)).2.2.2.2.1⟩
            have HF4 := Lib.hid F4
            have CL := Lib.hid (fun W y (hW : Fr0 w4 W) hy => HL0.out W y (HF4.out.trans hW) hy)
            clear hr4 F2 F3 F4
            generalize w.heap.size = E at *
            go_upto_region 5 with fail
            go_cut [8, 9] (fun s8 s9 wx => s8 = .int .i64 V ∧ s9 = .int .i64 Z ∧ Fr0 w4 wx)
            case first =>
              go_region_held3 (fun w' => Fr0 w4 w' ∧ w'.cell? ⟨E, 0, none⟩ = some (.int .i64 k) ∧ w'.cell? ⟨E, 1, none⟩ = some (.int .i64 a) ∧ w'.cell? ⟨E, 2, none⟩ = some (.int .i64 n) ∧ w'.cell? ⟨E, 3, none⟩ = some (.int .i64 t) ∧ w'.cell? ⟨E, 4, none⟩ = some (.int .i64 x))
                (exact HKEY.out _ (by first | exact Fr0.refl _ | exact (Fr0.refl _).drew | exact hff4 | exact hff3 | exact hff2))
                ((first
                  | (go_at_call 40; (with_reducible refine Calls.mono (CL.out _ _ (by first | exact (Fr0.refl _).drew | exact Fr0.refl _ | exact hff2) (by first | exact .inl rfl | exact .inr rfl)) ?_); rintro e w7 ⟨rfl, hf7⟩; first | (have hff3 : Fr0 w4 w7 := hff2.trans hf7; clear hf7) | (have hff2 : Fr0 w4 w7 := (by first | exact (Fr0.refl _).drew.trans hf7 | exact hf7); clear hf7))
                  | (go_at_call 39; (with_reducible refine Calls.mono (CR.out _) ?_); rintro e w8 ⟨rfl, hf8⟩; have hff4 : Fr0 w4 w8 := hff3.trans hf8; clear hf8)))
              all_goals
                go_wp2_with fail
                go_meet
                exact ⟨rfl, rfl, by assumption⟩
            case rest =>
              obtain ⟨rfl, rfl, hf9⟩ := hcut
              clear HKEY CL CR r1 r2 r3 r4 r5 lr
              go_wp2_with fail
              go_ret2
              exact ⟨rfl, HF4.out.trans hf9⟩

end Go.Proofs.YtclpndigmidjkaaGreat

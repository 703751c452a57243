/- Rows of a blame, and the walk of builder.add. -/
import Derived.Test.YtbokcmkbnkncoaaTxt
import Derived.Deep.QuietTactic
import Derived.BigQuiet
set_option linter.unusedSimpArgs false
set_option linter.unusedVariables false
namespace Go.Proofs.Ytbokcmkbnkncoaa
open Go.RowKit

structure Rw where
  fr : Int
  n : Int
  ver : Int
  org : Int
deriving DecidableEq, Inhabited

def Rw.vals (r : Rw) : List Value := [.int .i64 r.fr, .int .i64 r.n, .int .i64 r.ver, .int .i64 r.org]
def rowCells (rs : List Rw) : List Value := rs.flatMap Rw.vals

/-- The rows after n letters of a version have been added behind len letters. -/
def addRow (rs : List Rw) (len n ver org : Int) : List Rw :=
  if n = 0 then rs else
  match rs.getLast? with
  | none => [⟨len, n, ver, org⟩]
  | some r => if r.ver = ver ∧ r.org + r.n = org then rs.dropLast ++ [⟨r.fr, r.n + n, r.ver, r.org⟩] else rs ++ [⟨len, n, ver, org⟩]

/-- Block q is a builder with these rows. -/
structure Bd (w : World) (q : Nat) (rv : Value) (rs : List Rw) (len : Int) : Prop where
  ptr : w.heap[q]? = some (.cells #[rv, .int .i64 len] 96 (0, 0))
  own : w.ownsRow 0 51 4 rv rs.length (rowCells rs)

def BStep (w w' : World) (q : Nat) (rv : Value) (rs : List Rw) (len : Int) : Prop :=
  ∃ rv', Bd w' q rv' rs len ∧ Fr (fun k => k = q ∨ rv.ownBlock = some k) w w' ∧ (∀ k, rv'.ownBlock = some k → rv.ownBlock = some k ∨ w.heap.size ≤ k)

theorem Bd.kept0 {w w' : World} {q : Nat} {rv : Value} {rs : List Rw} {len : Int} (h : Bd w q rv rs len) (hf : Fr0 w w') : Bd w' q rv rs len := ⟨hf.kept h.ptr, hf.owns h.own⟩

theorem Bd.apart {w : World} {q : Nat} {rv : Value} {rs : List Rw} {len : Int} (h : Bd w q rv rs len) : rv.ownBlock ≠ some q := by
  intro e
  rcases h.own.2 with ⟨h1, _⟩ | ⟨g, cap, cur, h1, _, hg, _⟩
  · rw [h1] at e; simp [Value.ownBlock] at e
  · rw [h1] at e
    simp [Value.ownBlock] at e
    rw [e, h.ptr] at hg; simp at hg

theorem info_row : (Try.prog.info? 51).map (fun i => (i.zero, i.size, i.bytes)) = some (some (.agg #[.int .i64 0, .int .i64 0, .int .i64 0, .int .i64 0]), 4, 32) := by kernel_rfl

theorem badd_meet {W w1 : World} {o : Obj} {rv : Value} {g cap n q : Nat} {len len' : Int} {xs : List Value}
    (hptr : W.heap[q]? = some (.cells #[rv, .int .i64 len] 96 (0, 0)))
    (hown1 : w1.ownsRow 0 51 4 (.slice (some ⟨g, 0, none⟩) (n + 1) cap) (n + 1) xs)
    (hgrow : World.grownBy (W.alloc o).drew w1 rv.ownBlock) (hat : rv.ownBlock = some g ∨ g = W.heap.size + 1) (hag : rv.ownBlock ≠ some q) :
    (w1.setCell ⟨q, 0, none⟩ (.slice (some ⟨g, 0, none⟩) (n + 1) cap)).heap[q]? = some (.cells #[.slice (some ⟨g, 0, none⟩) (n + 1) cap, .int .i64 len] 96 (0, 0)) ∧
     (w1.setCell ⟨q, 0, none⟩ (.slice (some ⟨g, 0, none⟩) (n + 1) cap)).ownsRow 0 51 4 (.slice (some ⟨g, 0, none⟩) (n + 1) cap) (n + 1) xs ∧
     Fr (fun k => k = q ∨ rv.ownBlock = some k) W (w1.setCell ⟨q, 0, none⟩ (.slice (some ⟨g, 0, none⟩) (n + 1) cap)) ∧ (rv.ownBlock = some g ∨ W.heap.size ≤ g) := by
  have lp := lt_of_block hptr
  have h1 : w1.heap[q]? = some (.cells #[rv, .int .i64 len] 96 (0, 0)) :=
    (hgrow.block q (by simp; omega) (fun e => hag e.symm)).trans ((alloc_lt W o q lp).trans hptr)
  have hg : g ≠ q := by
    rintro rfl
    rcases hown1.2 with ⟨h2, _⟩ | ⟨g', cap', cur, h2, _, hg, _⟩
    · cases h2
    · simp at h2
      rw [← h2.1, h1] at hg
      simp at hg
  refine ⟨setCell_block h1 0 _, owns_set_other hown1 _ _ (by simpa [Value.ownBlock] using hg), ?_, ?_⟩
  · exact ((((Fr.refl _ W).alloc o).drew).grown hgrow (fun k hk _ => .inr hk)).setCell _ _ (fun _ => .inl rfl)
  · rcases hat with h | h
    · exact .inl h
    · exact .inr (by omega)

set_option maxRecDepth 100000 in
set_option maxHeartbeats 1000000 in
theorem bl_add_zero (q : Nat) (ver org : Int) (w : World) :
    Calls Try.prog 29 #[.pointer (some ⟨q, 0, none⟩), .int .i64 0, .int .i64 ver, .int .i64 org] w fun e w' => e = .returned (.tuple #[]) ∧ w = w' := by
  go_enter Try.func29, Try.ntmps29
  go_wp2_with fail
  exact bodyPost_ret (v := .tuple #[]) (by simp [results, Try.results29, go_sem]) rfl ⟨rfl, rfl⟩

theorem owns_form {w : World} {base : Nat} {e : TypeId} {size n : Nat} {v : Value} {xs : List Value} (h : w.ownsRow base e size v n xs) : ∃ a cap, v = .slice a n cap := by
  rcases h.2 with ⟨h1, h2⟩ | ⟨g, cap, cur, h1, _⟩
  · exact ⟨none, 0, by rw [h1, h2]⟩
  · exact ⟨_, cap, h1⟩

theorem owned_row {w : World} {rv : Value} {rs : List Rw} (h : w.ownsRow 0 51 4 rv rs.length (rowCells rs)) {k : Nat} {r : Rw} (hx : rs[k]? = some r) :
    ∃ lb cap, rv = .slice (some ⟨lb, 0, none⟩) rs.length cap ∧ ∀ j u, r.vals[j]? = some u → w.cell? ⟨lb, k * 4 + j, none⟩ = some u := by
  have hlt : k < rs.length := (List.getElem?_eq_some_iff.1 hx).1
  obtain ⟨lb, cap, hsv, _, _⟩ := h.form (by omega)
  refine ⟨lb, cap, hsv, fun j u hu => ?_⟩
  have hj : j < 4 := by have := (List.getElem?_eq_some_iff.1 hu).1; simpa [Rw.vals] using this
  rw [hsv] at h
  refine owns_cell h _ _ ?_
  rw [rowCells, flat_get Rw.vals 4 rs (fun _ _ => rfl) k j hj r hx]
  exact hu

set_option maxRecDepth 100000 in
set_option maxHeartbeats 2000000 in
theorem bl_add_new {w : World} {q : Nat} {rv : Value} {rs : List Rw} {len : Int} (hB : Bd w q rv rs len) (n ver org : Int) (hn : 1 ≤ n) (hl : 0 ≤ len) (hs : len + n ≤ 9223372036854775807) (hlen : rs.length ≤ 1000000)
    (hlast : ∀ r, rs.getLast? = some r → ¬ (r.ver = ver ∧ r.org + r.n = org)) (hbd : ∀ r, rs.getLast? = some r → 0 ≤ r.org ∧ 0 ≤ r.n ∧ r.org + r.n ≤ 9223372036854775807) :
    Calls Try.prog 29 #[.pointer (some ⟨q, 0, none⟩), .int .i64 n, .int .i64 ver, .int .i64 org] w fun e w' => e = .returned (.tuple #[]) ∧ BStep w w' q rv (rs ++ [⟨len, n, ver, org⟩]) (len + n) := by
  obtain ⟨i0, hi0, hz0, hz1, hz2⟩ := info_parts info_row
  have hu : Try.prog.underlying 37 = some (.slice 51) := Try.underlying37
  obtain ⟨c0, c1, f, l⟩ := cells2 hB.ptr
  have hag := hB.apart
  have hown := hB.own
  have HP := Lib.hid hB.ptr
  have hn0 : (n == 0) = false := by simp; omega
  obtain ⟨a, cap, hrv⟩ := owns_form hown
  rw [hrv] at c0
  go_enter Try.func29, Try.ntmps29
  go_upto_region 2 with fail
  go_cut [51] (fun s wx => s = .bool false ∧ ∃ nq, wx = w.drewN nq)
  case first =>
    cases hg : rs.getLast? with
    | none =>
      have e0 : rs.length = 0 := by rw [List.getLast?_eq_none_iff.1 hg]; rfl
      have hd1 : decide ((0 : Int) ≤ (rs.length : Int) - 1) = false := decide_eq_false (by omega)
      have hd2 : decide ((1 : Int) ≤ (rs.length : Int)) = false := decide_eq_false (by omega)
      have hd3 : decide (1 ≤ rs.length) = false := decide_eq_false (by omega)
      have hd4 : decide (0 < rs.length) = false := decide_eq_false (by omega)
      clear hlast hbd hown HP hB hrv hg hz0 e0
      go_quiet (fail)
      go_wp2_with fail
      go_meet
      exact ⟨rfl, _, rfl⟩
    | some r =>
      have hx : rs[rs.length - 1]? = some r := by rw [← List.getLast?_eq_getElem?]; exact hg
      have hpos : 0 < rs.length := by have := (List.getElem?_eq_some_iff.1 hx).1; omega
      obtain ⟨lb, cap', hrv2, hc⟩ := owned_row hown hx
      have hrv3 := hrv.symm.trans hrv2
      simp only [Value.slice.injEq] at hrv3
      obtain ⟨rfl, _, rfl⟩ := hrv3
      have d1 := hc 1 _ rfl
      have d2 := hc 2 _ rfl
      have d3 := hc 3 _ rfl
      obtain ⟨b1, b2, b3⟩ := hbd r hg
      have hnm := hlast r hg
      have g1 : (0 : Int) ≤ (rs.length : Int) - 1 := by omega
      have g2 : (rs.length : Int) - 1 < (rs.length : Int) := by omega
      have g3 : (1 : Int) ≤ (rs.length : Int) := by omega
      have g4 : ((rs.length : Int) - 1).toNat = rs.length - 1 := by omega
      by_cases hv : r.ver = ver
      · have hv1 : (r.ver == ver) = true := by simpa using hv
        have ho1 : (r.org + r.n == org) = false := by simp; exact fun h => hnm ⟨hv, h⟩
        have hwr := IntWalk.i64_in (r.org + r.n) (by omega)
        clear hlast hbd hown HP hB hrv hg hz0 hc hnm hv hx hrv2 g4
        go_quiet (fail)
        go_wp2_with fail
        go_meet
        exact ⟨rfl, _, rfl⟩
      · have hv1 : (r.ver == ver) = false := by simpa using hv
        clear hlast hbd hown HP hB hrv hg hz0 hc hnm hv hx hrv2 g4
        go_quiet (fail)
        go_wp2_with fail
        go_meet
        exact ⟨rfl, _, rfl⟩
  case rest =>
    obtain ⟨rfl, nq, rfl⟩ := hcut
    clear hlast hbd
    have hW : Fr0 w (w.drewN nq) := (Fr0.refl w).drewN nq
    have hB1 := hB.kept0 hW
    have hz : (w.drewN nq).heap.size = w.heap.size := rfl
    generalize w.drewN nq = W at *
    have HW := Lib.hid hW
    have HZ := Lib.hid hz
    clear hW hz hB c0 c1 f l hown HP
    obtain ⟨c0, c1, f, l⟩ := cells2 hB1.ptr
    rw [hrv] at c0
    have HRV := Lib.hid hrv
    have hown := hB1.own
    rw [hrv] at hown
    rw [hrv] at hag
    clear hrv
    have hn63 : rs.length + 1 ≤ maxLen := by unfold maxLen; omega
    have hby : (rs.length + 1) * 32 ≤ 140737488355328 := by omega
    go_upto_region 4 with fail
    go_cut [] (fun wx => ∃ g cap', wx.heap[q]? = some (.cells #[.slice (some ⟨g, 0, none⟩) (rs.length + 1) cap', .int .i64 len] 96 (0, 0)) ∧
       wx.ownsRow 0 51 4 (.slice (some ⟨g, 0, none⟩) (rs.length + 1) cap') (rs.length + 1) (rowCells rs ++ [.int .i64 len, .int .i64 n, .int .i64 ver, .int .i64 org]) ∧ Fr (fun k => k = q ∨ (Value.slice a rs.length cap).ownBlock = some k) W wx ∧ ((Value.slice a rs.length cap).ownBlock = some g ∨ W.heap.size ≤ g))
    case first =>
      have HP : Hid (W.heap[q]? = some (.cells #[.slice a rs.length cap, .int .i64 len] 96 (0, 0))) := by have := hB1.ptr; rw [HRV.out] at this; exact this
      clear hB1 HW HZ HRV
      go_region_law ((refine step_append_lies _ (by rfl) _ _ _ (by rfl) 0 51 i0 _ 4 32 hu hi0 hz0 hz1 hz2 rfl (by omega) (.slice a rs.length cap) rs.length (rowCells rs) (by rfl) ((hown.alloc _).drew) ⟨W.heap.size, 0, none⟩ 1 1 [.int .i64 len, .int .i64 n, .int .i64 ver, .int .i64 org] (by rfl) (by rfl) (World.news_of_block (cs := #[.int .i64 len, .int .i64 n, .int .i64 ver, .int .i64 org]) (t := 51) (fr := (0, 0)) (heap_alloc_new W _)) (by simp [Value.oneCell']) (by omega) hn63 hby (by omega) (W.heap.size + 1) (by simp) ?_; intro g cap' w1 hown1 hgrow hat hlt; have e1 : w1.cell? ⟨q, 0, none⟩ = some (.slice a rs.length cap) := (hgrow.cell_far _ (by simp; omega) (Ne.symm hag)).trans ((cellA W _ q 0 l).trans c0); have e2 : w1.frozen? ⟨q, 0, none⟩ = false := (hgrow.frozen_far _ (by simp; omega) (Ne.symm hag)).trans ((World.frozen?_of_block (alloc_lt W _ q l)).trans (f 0))))
      all_goals
        go_wp2_with fail
        go_meet
        exact ⟨g, cap', badd_meet (len' := len) HP.out hown1 hgrow hat hag⟩
    case rest =>
      obtain ⟨g, cap', hp2, ho2, hf2, hg2⟩ := hcut
      clear c0 c1 f l hown hB1
      obtain ⟨c0, c1, f, l⟩ := cells2 hp2
      have hgq : g ≠ q := by
        intro e
        rcases ho2.2 with ⟨h2, _⟩ | ⟨g', cap', cur, h2, _, hg, _⟩
        · cases h2
        · simp at h2
          rw [← h2.1, e, hp2] at hg
          simp at hg
      have HP2 := Lib.hid hp2
      clear hp2
      go_wp2_with fail
      go_end0
      refine ⟨rfl, .slice (some ⟨g, 0, none⟩) (rs.length + 1) cap', ⟨setCell_block HP2.out 1 _, ?_⟩, ?_, ?_⟩
      · have := owns_set_other ho2 ⟨q, 1, none⟩ (.int .i64 (len + n)) (by simpa [Value.ownBlock] using hgq)
        simpa [rowCells, Rw.vals] using this
      · refine Fr.setCell ?_ _ _ (fun _ => .inl rfl)
        refine Fr.trans HW.out.fr hf2 ?_
        intro i hi _
        rw [HRV.out]
        exact hi
      · intro k hk
        simp [Value.ownBlock] at hk
        subst hk
        rw [HRV.out]
        rcases hg2 with h | h
        · exact .inl h
        · exact .inr (by have := HZ.out; omega)

end Go.Proofs.Ytbokcmkbnkncoaa

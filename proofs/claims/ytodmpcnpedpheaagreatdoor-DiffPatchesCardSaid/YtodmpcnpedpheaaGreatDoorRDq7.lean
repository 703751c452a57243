/- The walk of table.script. -/
import Derived.Test.YtodmpcnpedpheaaGreatDoorRDq6
set_option linter.unusedSimpArgs false
set_option linter.unusedVariables false
namespace Go.Proofs.YtodmpcnpedpheaaGreatDoor
open Go.RowKit

/-- A range of the first text and one of the second. -/
structure Qd where
  fx : Nat
  x : Nat
  fy : Nat
  y : Nat

def qdL (fx x fy y : Nat) : List Qd := if x = fx ∧ y = fy then [] else [⟨fx, x, fy, y⟩]

/-- The program's script, as ranges. -/
def scrQ (A B : List Int) : Nat → Nat → Nat → Nat → Nat → List Qd
  | 0, x, y, fx, fy => qdL fx x fy y
  | e + 1, x, y, fx, fy =>
    let s := cpl (A.drop x) (B.drop y)
    let fl := if 0 < s then qdL fx x fy y else []
    let x1 := x + s
    let y1 := y + s
    let fx1 := if 0 < s then x + s else fx
    let fy1 := if 0 < s then y + s else fy
    if x1 < A.length ∧ atF A B e ((x1 : Int) + 1 - y1) ≤ (x1 : Int) + 1 then fl ++ scrQ A B e (x1 + 1) y1 fx1 fy1
    else if y1 < B.length then fl ++ scrQ A B e x1 (y1 + 1) fx1 fy1
    else fl ++ scrQ A B e x1 y1 fx1 fy1

theorem scrQ_succ {A B : List Int} {e x y fx fy s x1 y1 fx1 fy1 : Nat} {fl : List Qd} {P : Int} (hs : cpl (A.drop x) (B.drop y) = s) (e1 : x + s = x1) (e2 : y + s = y1) (hP : atF A B e ((x1 : Int) + 1 - y1) = P) (hfx : (if 0 < s then x1 else fx) = fx1) (hfy : (if 0 < s then y1 else fy) = fy1) (hfl : (if 0 < s then qdL fx x fy y else []) = fl) :
    scrQ A B (e + 1) x y fx fy = if x1 < A.length ∧ P ≤ (x1 : Int) + 1 then fl ++ scrQ A B e (x1 + 1) y1 fx1 fy1 else if y1 < B.length then fl ++ scrQ A B e x1 (y1 + 1) fx1 fy1 else fl ++ scrQ A B e x1 y1 fx1 fy1 := by
  subst hs e1 e2 hP hfx hfy hfl
  rfl

/-- Changes in memory are those of ranges. -/
inductive ChR (B : List Int) (L : List Ent) : List Qd → List (Int × Int × Int) → Prop
  | nil : ChR B L [] []
  | snoc {qs : List Qd} {cs : List (Int × Int × Int)} {q : Qd} {id : Int} : ChR B L qs cs → (q.y = q.fy → id = 0) → (∃ d, BalZ L id (rngT B q.fy (q.y - q.fy)) d) → ChR B L (qs ++ [q]) (cs ++ [((q.fx : Int), (q.x : Int) - q.fx, id)])

theorem ChR.more {B : List Int} {L L' : List Ent} {n : Nat} {qs : List Qd} {cs : List (Int × Int × Int)} (h : ChR B L qs cs) (hD : DOk L) (g : Gu L L' n) : ChR B L' qs cs := by
  induction h with
  | nil => exact .nil
  | snoc h1 h2 h3 ih =>
    obtain ⟨d, h4⟩ := h3
    exact .snoc ih h2 ⟨d, g.gr.balz hD h4⟩

theorem SigOk.more {L L' : List Ent} {n : Nat} {id : Int} (h : SigOk L id) (hD : DOk L) (g : Gu L L' n) : SigOk L' id ∧ txt L' id = txt L id := by
  obtain ⟨M, rfl⟩ := g.gr.ext
  have hk := h.kn
  have hk' : isKnown (L ++ M) id := ⟨hk.1, by have := hk.2; rw [List.length_append]; omega⟩
  refine ⟨⟨hk', ?_⟩, ?_⟩
  · rcases h.lv with e | e
    · exact .inl e
    · by_cases h0 : id = 0
      · exact .inl h0
      · exact .inr (by rw [(kl_more hD M g.gr.dok _ id (Nat.le_refl _) hk h0).2]; exact e)
  · unfold txt
    exact txtF_append hD M _ id hk

/-- A script that is being made. -/
structure ScW (B0 bt : Nat) (w W : World) (pp tp p mb : Nat) (most : Int) (Lc : List Ent) (tb : Nat) (a b n m : Int) (rs : List (RowD × Value)) (v pv : Value) (cs : List (Int × Int × Int)) : Prop where
  ex : ∃ T, Pq B0 W pp tp p mb most Lc T
  kx : Kx B0 mb w W
  tab : TabD bt W tb pp a b n m rs v
  row : W.ownsRow w.heap.size 72 3 pv cs.length (cs.flatMap chz)

theorem ScW.next {B0 bt : Nat} {w W W' : World} {pp tp p mb : Nat} {most : Int} {Lc : List Ent} {tb : Nat} {a b n m : Int} {rs : List (RowD × Value)} {v pv : Value} {cs : List (Int × Int × Int)} (h : ScW B0 bt w W pp tp p mb most Lc tb a b n m rs v pv cs) (hp : ∃ T, Pq B0 W' pp tp p mb most Lc T) (hk : Kx B0 mb W W') : ScW B0 bt w W' pp tp p mb most Lc tb a b n m rs v pv cs :=
  ⟨hp, Ks.trans h.kx hk, h.tab.keptX hk, Kx.owns hk h.row (by decide)⟩
theorem ScW.next0 {B0 bt : Nat} {w W W' : World} {pp tp p mb : Nat} {most : Int} {Lc : List Ent} {tb : Nat} {a b n m : Int} {rs : List (RowD × Value)} {v pv : Value} {cs : List (Int × Int × Int)} (h : ScW B0 bt w W pp tp p mb most Lc tb a b n m rs v pv cs) (hf : Fr0 W W') : ScW B0 bt w W' pp tp p mb most Lc tb a b n m rs v pv cs := by
  obtain ⟨T, hP⟩ := h.ex
  exact h.next ⟨T, hP.kept0 hf⟩ (Ks.of0 hf)

theorem ScW.change {B0 bt : Nat} {w W W' : World} {pp tp p mb : Nat} {most : Int} {Lc L' : List Ent} {tb : Nat} {a b n m : Int} {rs : List (RowD × Value)} {v pv pv' : Value} {cs cs' : List (Int × Int × Int)} (h : ScW B0 bt w W pp tp p mb most Lc tb a b n m rs v pv cs) (hp : ∃ T, Pq B0 W' pp tp p mb most L' T) (hk : Ks (fun k => pv.ownBlock = some k) B0 mb W W') (hr : W'.ownsRow w.heap.size 72 3 pv' cs'.length (cs'.flatMap chz)) : ScW B0 bt w W' pp tp p mb most L' tb a b n m rs v pv' cs' := by
  have hblk : ∀ k, pv.ownBlock = some k → w.heap.size ≤ k ∧ ∃ cur, W.heap[k]? = some (Obj.cells cur 72 (0, 0)) := fun k hk => by
    obtain ⟨cur, hc⟩ := owns_block h.row hk
    exact ⟨(World.ownsRow.lt h.row k hk).1, cur, hc⟩
  refine ⟨hp, Ks.next h.kx hk (fun i hi e => by have := (hblk i e).1; omega), ⟨hk.cells _ _ _ _ h.tab.box (by decide) (fun e => ?_), hk.owns h.tab.row (by decide) (fun k hk2 e => ?_), fun q hq => hk.owns (h.tab.each q hq) (by decide) (fun k hk2 e => ?_)⟩, hr⟩
  · obtain ⟨_, cur, h2⟩ := hblk _ e
    exact ne_of_types h2 h.tab.box (by decide) rfl
  · obtain ⟨_, cur, h2⟩ := hblk _ e
    obtain ⟨cur3, h3⟩ := owns_block h.tab.row hk2
    rw [h2] at h3
    cases h3
  · obtain ⟨_, cur, h2⟩ := hblk _ e
    obtain ⟨cur3, h3⟩ := owns_block (h.tab.each q hq) hk2
    rw [h2] at h3
    cases h3

set_option maxRecDepth 100000 in
theorem df_change0 {w : World} {tb : Nat} {pv : Value} (x y : Nat) :
    Calls Tryz.prog 63 #[.pointer (some ⟨tb, 0, none⟩), pv, .int .i64 x, .int .i64 x, .int .i64 y, .int .i64 y] w fun e w' => e = .returned (.tuple #[pv, .nilIface]) ∧ w' = w := by
  go_enter Tryz.func63, Tryz.ntmps63
  go_wp2_with fail
  go_ret2
  exact ⟨rfl, rfl⟩

theorem qdL_len (fx x fy y : Nat) : (qdL fx x fy y).length ≤ 1 := by unfold qdL; split <;> simp

/-- A change, or none. -/
theorem df_changeS {B0 bt : Nat} {w W : World} {pp tp p mb tb : Nat} {most : Int} {L Lc : List Ent} {a b n m : Int} {B : List Int} {rs : List (RowD × Value)} {v pv : Value} {cs : List (Int × Int × Int)} {qs : List Qd} (h : ScW B0 bt w W pp tp p mb most Lc tb a b n m rs v pv cs) (hBw : B0 ≤ w.heap.size) (hb : SigOk Lc b) (eB : txt Lc b = B) (fx x fy y : Nat) (hg : Gu L Lc (2 * fy)) (hq : ChR B Lc qs cs) (hcl : cs.length ≤ 1000) (hl : B.length ≤ 300) (hL : L.length + 2 * B.length ≤ 5000) (hmost : 6000 ≤ most) (h1 : fx ≤ x) (h2 : x ≤ 1000000) (h3 : fy ≤ y) (h4 : y ≤ B.length) :
    Calls Tryz.prog 63 #[.pointer (some ⟨tb, 0, none⟩), pv, .int .i64 fx, .int .i64 x, .int .i64 fy, .int .i64 y] W fun e w' => ∃ L' pv' cs', e = .returned (.tuple #[pv', .nilIface]) ∧ ScW B0 bt w w' pp tp p mb most L' tb a b n m rs v pv' cs' ∧ Gu L L' (2 * y) ∧ ChR B L' (qs ++ qdL fx x fy y) cs' ∧ cs'.length ≤ cs.length + 1 := by
  by_cases he : x = fx ∧ y = fy
  · obtain ⟨rfl, rfl⟩ := he
    refine (df_change0 x y).mono ?_
    rintro e w' ⟨rfl, rfl⟩
    refine ⟨Lc, pv, cs, rfl, h, hg, ?_, by omega⟩
    unfold qdL
    rw [if_pos ⟨rfl, rfl⟩, List.append_nil]
    exact hq
  · obtain ⟨T, hP⟩ := h.ex
    have hgl := hg.gr.len
    subst eB
    refine (df_change hP h.tab hb h.row hBw h.kx.size (by omega) hl (by omega) (by omega) fx x fy y h1 h2 h3 h4 he).mono ?_
    rintro e w' ⟨L', T', id, pv', rfl, hp, hk, hg2, hr, _, hid, hbz⟩
    have hrl : (rngT (txt Lc b) fy (y - fy)).length = y - fy := rngT_len (by omega)
    rw [hrl] at hg2
    refine ⟨L', pv', _, rfl, h.change ⟨T', hp⟩ hk hr, hg.trans hg2 (by omega), ?_, by simp⟩
    unfold qdL
    rw [if_neg he]
    exact .snoc (q := ⟨fx, x, fy, y⟩) (hq.more hP.dok hg2) (fun e => hid (List.eq_nil_of_length_eq_zero (by rw [hrl]; have e2 : y = fy := e; omega))) hbz

def ScPost (B0 : Nat) (w : World) (pp tp p mb : Nat) (most : Int) (L : List Ent) (A B : List Int) (e : Ending) (w' : World) : Prop :=
  ∃ L' cs pv, e = .returned (.tuple #[pv, .nilIface]) ∧ (∃ T', Pq B0 w' pp tp p mb most L' T') ∧ Kx B0 mb w w' ∧ Gu L L' (2 * B.length) ∧ w'.ownsRow w.heap.size 72 3 pv cs.length (cs.flatMap chz) ∧ ChR B L' (scrQ A B (edp A B 0 0) 0 0 0 0) cs

set_option maxRecDepth 100000 in
set_option maxHeartbeats 4000000 in
theorem df_script {B0 bt : Nat} {w : World} {pp tp p mb tb : Nat} {most : Int} {L : List Ent} {T : List KRow} {a b : Int} {A B : List Int} {rs : List (RowD × Value)} {v : Value} (hp : Pq B0 w pp tp p mb most L T) (h : TabD bt w tb pp a b A.length B.length rs v) (hR : ∀ i (hi : i < rs.length), rs[i].1 = rowF A B i) (hlen : rs.length = edp A B 0 0 + 1) (hD : edp A B 0 0 ≤ 256) (ha : SigOk L a) (hb : SigOk L b) (eA : txt L a = A) (eB : txt L b = B) (hA : A.length ≤ 300) (hB : B.length ≤ 300) (hL : L.length + 2 * B.length ≤ 5000) (hmost : 6000 ≤ most) :
    Calls Tryz.prog 35 #[.pointer (some ⟨tb, 0, none⟩)] w (ScPost B0 w pp tp p mb most L A B) := by
  obtain ⟨g, gc, _, _, hgv, _⟩ := h.cell 0 (by omega)
  subst hgv
  have CD0 := df_distance h (by omega) (by omega)
  rw [hlen, Nat.add_sub_cancel] at CD0
  have CD : Hid (Calls Tryz.prog 34 #[.pointer (some ⟨tb, 0, none⟩)] w fun e w' => e = .returned (.int .i64 (edp A B 0 0 : Nat)) ∧ w = w') := CD0.mono (fun e w' h => ⟨h.1, h.2.symm⟩)
  clear CD0
  have hBw := hp.base
  have HW : Hid (ScW B0 bt w w pp tp p mb most L tb a b A.length B.length rs (.slice (some ⟨g, 0, none⟩) rs.length gc) (.slice none 0 0) []) := ⟨⟨T, hp⟩, Ks.refl _ _ _ _, h, World.ownsRow_nil _ _ _ _⟩
  have HG : Hid (Gu L L (2 * 0)) := Gu.refl hp.sok hp.dok hp.uq
  have hDO := hp.dok
  obtain ⟨D, hDD⟩ : ∃ D, edp A B 0 0 = D := ⟨_, rfl⟩
  have hpost : Hid (∀ e w', ScPost B0 w pp tp p mb most L A B e w' = ScPost B0 w pp tp p mb most L A B e w') := fun _ _ => rfl
  have HDD := Lib.hid hDD
  rw [hDD] at CD hD hlen
  clear hp h hDD
  go_enter Tryz.func35, Tryz.ntmps35
  go_wp2_with fail
  refine CD.out.mono ?_
  rintro e w1 ⟨rfl, rfl⟩
  go_wp2_with fail
  go_loopg [4, 5, 6, 7, 8, 9] D (fun gk s4 s5 s6 s7 s8 s9 wr => ∃ (e x y fx fy : Nat) (Lc : List Ent) (qs : List Qd) (cs : List (Int × Int × Int)) (pv : Value), s4 = pv ∧ s5 = .int .i64 (x : Nat) ∧ s6 = .int .i64 (y : Nat) ∧ s7 = .int .i64 (fx : Nat) ∧ s8 = .int .i64 (fy : Nat) ∧ s9 = .int .i64 (e : Nat) ∧ gk = e ∧ ScW B0 bt w wr pp tp p mb most Lc tb a b A.length B.length rs (.slice (some ⟨g, 0, none⟩) rs.length gc) pv cs ∧ Gu L Lc (2 * fy) ∧ ChR B Lc qs cs ∧ qs ++ scrQ A B e x y fx fy = scrQ A B D 0 0 0 0 ∧ x ≤ A.length ∧ y ≤ B.length ∧ fx ≤ x ∧ fy ≤ y ∧ e ≤ D ∧ cs.length + e ≤ D)
  case atStart => exact ⟨D, 0, 0, 0, 0, L, [], [], _, rfl, rfl, rfl, rfl, rfl, rfl, rfl, HW.out, HG.out, .nil, rfl, by omega, by omega, by omega, by omega, by omega, by simp⟩
  case round =>
    clear HW HG
    obtain ⟨e, x, y, fx, fy, Lc, qs, cs, pv, rfl, rfl, rfl, rfl, rfl, rfl, hgk, hW, hG, hQ, hS, hx, hy, hfx, hfy, heD, hcl⟩ := hrel
    obtain ⟨pa, pc, rfl⟩ := owns_form hW.row
    obtain ⟨hac, eac⟩ := ha.more hDO hG
    obtain ⟨hbc, ebc⟩ := hb.more hDO hG
    rw [eA] at eac
    rw [eB] at ebc
    have hgl := hG.gr.len
    obtain ⟨s, hs⟩ : ∃ s, cpl (A.drop x) (B.drop y) = s := ⟨_, rfl⟩
    have hsl := cpl_le (A.drop x) (B.drop y)
    rw [hs, List.length_drop, List.length_drop] at hsl
    obtain ⟨T1, hP1⟩ := hW.ex
    have CPA := Lib.hid (fun W (hWW : Fr0 wr W) => px_At (hP1.kept0 hWW) hac hbc (by rw [eac]; exact hA) (by rw [ebc]; exact hB) x y (by rw [eac]; exact hx) (by rw [ebc]; exact hy))
    rw [eac, ebc, hs] at CPA
    have HS := Lib.hid hS
    have HW := Lib.hid hW
    have HQ := Lib.hid hQ
    have HG := Lib.hid hG
    have HKC : Hid (∀ W, Kx B0 mb wr W → W.cell? ⟨tb, 0, none⟩ = some (.pointer (some ⟨pp, 0, none⟩)) ∧ W.cell? ⟨tb, 1, none⟩ = some (.int .i64 a) ∧ W.cell? ⟨tb, 2, none⟩ = some (.int .i64 b)) := fun W h5 => by
      obtain ⟨e0, e1, e2, _⟩ := cells6t (hW.tab.keptX h5).box
      exact ⟨e0, e1, e2⟩
    obtain ⟨c0, c1, c2, c3, c4, c5, lt, cf⟩ := cells6t hW.tab.box
    clear hP1 hS hW hQ hG hac
    go_upto_region 6 with fail
    go_cut [10, 11] (fun u10 u11 wx => u10 = .int .i64 (s : Nat) ∧ u11 = .nilIface ∧ (∃ T', Pq B0 wx pp tp p mb most Lc T') ∧ Kx B0 mb wr wx)
    case first =>
      go_region_held3 (fun w' => w'.cell? ⟨tb, 0, none⟩ = some (.pointer (some ⟨pp, 0, none⟩)) ∧ w'.cell? ⟨tb, 1, none⟩ = some (.int .i64 a) ∧ w'.cell? ⟨tb, 2, none⟩ = some (.int .i64 b))
        (exact HKC.out _ (by first | exact Ks.refl _ _ _ _ | exact (Ks.refl _ _ _ _).drew | exact (Ks.refl _ _ _ _).drew.trans (by assumption)))
        ((first | (go_at_call 62; (with_reducible refine Calls.mono (CPA.out _ (by first | exact Fr0.refl _ | exact (Fr0.refl _).drew)) ?_); rintro e w5 ⟨T5, rfl, hp5, hx5⟩)))
      all_goals
        go_wp2_with fail
        go_meet
        exact ⟨rfl, rfl, ⟨T5, hp5⟩, Ks.trans (Ks.of0 (Fr0.refl wr).drew) hx5⟩
    case rest =>
    obtain ⟨rfl, rfl, hp5, hx5⟩ := hcut
    rename World => W5
    have HW5 := Lib.hid (HW.out.next hp5 hx5)
    clear hp5 hx5 HW CPA HKC c0 c1 c2 c3 c4 c5 lt cf
    obtain ⟨c0, c1, c2, c3, c4, c5, lt, cf⟩ := cells6t HW5.out.tab.box
    have q1 : IntKind.i64.wrap ((x : Int) + (s : Int)) = ((x + s : Nat) : Int) := by rw [show (x : Int) + (s : Int) = ((x + s : Nat) : Int) by omega]; exact wrapI (by omega) (by omega)
    have q2 : IntKind.i64.wrap ((y : Int) + (s : Int)) = ((y + s : Nat) : Int) := by rw [show (y : Int) + (s : Int) = ((y + s : Nat) : Int) by omega]; exact wrapI (by omega) (by omega)
    obtain ⟨x1, hx1⟩ : ∃ x1, x + s = x1 := ⟨_, rfl⟩
    obtain ⟨y1, hy1⟩ : ∃ y1, y + s = y1 := ⟨_, rfl⟩
    have q3 : (x1 : Int) ≤ (A.length : Int) := by omega
    have q4 : (y1 : Int) ≤ (B.length : Int) := by omega
    obtain ⟨cb, hcb⟩ : ∃ cb : Bool, decide (0 < s ∨ e = 0) = cb := ⟨_, rfl⟩
    obtain ⟨fx1, hfx1⟩ : ∃ fx1, (if cb = true then x1 else fx) = fx1 := ⟨_, rfl⟩
    obtain ⟨fy1, hfy1⟩ : ∃ fy1, (if cb = true then y1 else fy) = fy1 := ⟨_, rfl⟩
    obtain ⟨fl, hfl⟩ : ∃ fl, (if cb = true then qdL fx x fy y else []) = fl := ⟨_, rfl⟩
    have CCH := Lib.hid (df_changeS HW5.out hBw hbc ebc fx x fy y HG.out HQ.out (by omega) hB hL hmost hfx (by omega) hfy hy)
    rw [hx1] at q1
    rw [hy1] at q2
    have HCB := Lib.hid hcb
    have HX1 := Lib.hid hx1
    have HY1 := Lib.hid hy1
    have HSL := Lib.hid hsl
    have HSE := Lib.hid hs
    have HDE : Hid (e ≤ D ∧ cs.length + e ≤ D ∧ gk = e) := ⟨heD, hcl, hgk⟩
    have HXY : Hid (x ≤ A.length ∧ y ≤ B.length ∧ fx ≤ x ∧ fy ≤ y) := ⟨hx, hy, hfx, hfy⟩
    have hsb : s ≤ 300 := by omega
    clear hcb hx1 hy1 hsl hgl heD hcl hx hy hfx hfy hgk ebc eac hbc hs
    go_upto_region 9 with fail
    go_cut [42] (fun u wx => u = .bool cb ∧ W5 = wx)
    case first =>
      clear CCH HW5 HG HQ HS c0 c1 c2 c3 c4 c5 lt cf q1 q2 q3 q4 hR
      by_cases hs0 : 0 < s
      · have z1 : decide ((0 : Int) < (s : Int)) = true := decide_eq_true (by omega)
        have : cb = true := by rw [← HCB.out]; exact decide_eq_true (.inl hs0)
        subst this
        go_wp2_with fail
        go_meet
        exact ⟨rfl, rfl⟩
      · by_cases he0 : e = 0
        · have z2 : ((e : Int) == 0) = true := by rw [he0]; rfl
          have : cb = true := by rw [← HCB.out]; exact decide_eq_true (.inr he0)
          subst this
          obtain rfl : s = 0 := by omega
          clear hs0 he0
          go_wp2_with fail
          go_meet
          exact ⟨rfl, rfl⟩
        · have z2 : ((e : Int) == 0) = false := beq_eq_false_iff_ne.2 (by omega)
          have : cb = false := by rw [← HCB.out]; exact decide_eq_false (fun h => h.elim hs0 he0)
          subst this
          obtain rfl : s = 0 := by omega
          clear hs0 he0
          go_wp2_with fail
          go_meet
          exact ⟨rfl, rfl⟩
    case rest =>
    obtain ⟨rfl, rfl⟩ := hcut
    go_upto_if 42 with fail
    go_cut [4, 5, 6, 7, 8] (fun u4 u5 u6 u7 u8 wx => ∃ (L' : List Ent) (cs' : List (Int × Int × Int)), u5 = .int .i64 (x1 : Nat) ∧ u6 = .int .i64 (y1 : Nat) ∧ u7 = .int .i64 (fx1 : Nat) ∧ u8 = .int .i64 (fy1 : Nat) ∧ ScW B0 bt w wx pp tp p mb most L' tb a b A.length B.length rs (.slice (some ⟨g, 0, none⟩) rs.length gc) u4 cs' ∧ Gu L L' (2 * fy1) ∧ ChR B L' (qs ++ fl) cs' ∧ cs'.length + e ≤ D + 1)
    case first =>
      cases cb with
      | true =>
        rw [if_pos rfl] at hfx1 hfy1 hfl
        subst hfx1 hfy1 hfl
        clear c0 c1 c2 c3 c4 c5 lt cf hR
        go_wp2_with fail
        refine CCH.out.mono ?_
        rintro e w6 ⟨L6, pv6, cs6, rfl, hW6, hG6, hQ6, hl6⟩
        obtain ⟨pa6, pc6, rfl⟩ := owns_form hW6.row
        obtain ⟨c0, c1, c2, c3, c4, c5, lt, cf⟩ := cells6t hW6.tab.box
        have HW6 := Lib.hid hW6
        have HG6 := Lib.hid (hG6.le (show 2 * y ≤ 2 * y1 by have := HY1.out; omega))
        have HQ6 := Lib.hid hQ6
        have HL6 := Lib.hid hl6
        clear hW6 hG6 hQ6 hl6 HW5 CCH
        go_upto_region 13 with fail
        go_quiet (fail)
        have HW7 := Lib.hid (HW6.out.next0 ((Fr0.refl w6).drewN nq))
        go_wp2_with fail
        go_meet
        exact ⟨L6, cs6, rfl, rfl, rfl, rfl, HW7.out, HG6.out, HQ6.out, (by have := HDE.out; have := HL6.out; omega)⟩
      | false =>
        rw [if_neg (by decide)] at hfx1 hfy1 hfl
        subst hfx1 hfy1 hfl
        have hs0 : s = 0 := by have := of_decide_eq_false HCB.out; omega
        have e1 : x1 = x := by have := HX1.out; omega
        have e2 : y1 = y := by have := HY1.out; omega
        subst e1 e2
        clear CCH c0 c1 c2 c3 c4 c5 lt cf hR hs0
        go_wp2_with fail
        go_meet
        exact ⟨Lc, cs, rfl, rfl, rfl, rfl, HW5.out, HG.out, (by rw [List.append_nil]; exact HQ.out), (by have := HDE.out; omega)⟩
    case rest =>
    obtain ⟨L7, cs7, rfl, rfl, rfl, rfl, hW7, hG7, hQ7, hl7⟩ := hcut
    rename World => W7
    obtain ⟨pa7, pc7, rfl⟩ := owns_form hW7.row
    have HW7 := Lib.hid hW7
    have HG7 := Lib.hid hG7
    have HQ7 := Lib.hid hQ7
    have HL7 := Lib.hid hl7
    have HFX : Hid (x1 ≤ A.length ∧ y1 ≤ B.length ∧ fx1 ≤ x1 ∧ fy1 ≤ y1) := by
      have h5 := HXY.out
      have h6 := HX1.out
      have h7 := HY1.out
      refine ⟨by omega, by omega, ?_, ?_⟩
      · rw [← hfx1]; split <;> omega
      · rw [← hfy1]; split <;> omega
    clear hW7 hG7 hQ7 hl7 HW5 CCH c0 c1 c2 c3 c4 c5 lt cf HG HQ
    obtain ⟨c0, c1, c2, c3, c4, c5, lt, cf⟩ := cells6t HW7.out.tab.box
    by_cases he0 : e = 0
    · have z2 : ((e : Int) == 0) = true := by rw [he0]; rfl
      have HE : Hid (qs ++ fl = scrQ A B D 0 0 0 0) := by
        show _ = _
        rw [← HS.out, he0, ← hfl, if_pos (by rw [← HCB.out]; exact decide_eq_true (.inr he0))]
        rfl
      clear he0
      go_wp2_with fail
      go_ret2
      refine ⟨L7, cs7, _, rfl, HW7.out.ex, HW7.out.kx, HG7.out.le (by have := HFX.out; omega), HW7.out.row, ?_⟩
      rw [HDD.out, ← HE.out]
      exact HQ7.out
    · have z2 : ((e : Int) == 0) = false := beq_eq_false_iff_ne.2 (by omega)
      obtain ⟨k, rfl⟩ : ∃ k, e = k + 1 := ⟨e - 1, by omega⟩
      have hkD : k < D := by have := HDE.out; omega
      obtain ⟨g2, gc2, vi, ci, hgv2, hv2, r0, r1, lg⟩ := HW7.out.tab.cell k (by omega)
      cases hgv2
      have hrk := hR k (by omega)
      have heach := HW7.out.tab.each _ (List.getElem_mem (show k < rs.length by omega))
      rw [hv2] at heach
      rw [hrk] at r0 r1 heach
      obtain ⟨b1, b2, b3⟩ := rowF_bnd hA hB (e := k) (by omega)
      have hf7 := HFX.out
      have CAT := df_at heach b1 b2 b3 ((x1 : Int) + 1 - y1) (by omega) (by omega)
      rw [rowF_at] at CAT
      obtain ⟨P, hP⟩ : ∃ P, atF A B k ((x1 : Int) + 1 - y1) = P := ⟨_, rfl⟩
      rw [hP] at CAT
      have HCAT := Lib.hid CAT
      obtain ⟨cc, hcc⟩ : ∃ cc : Bool, decide (x1 < A.length ∧ P ≤ (x1 : Int) + 1) = cc := ⟨_, rfl⟩
      have HCC := Lib.hid hcc
      have HNX : Hid (∀ q, (if cc = true then fl ++ scrQ A B k (x1 + 1) y1 fx1 fy1 else if y1 < B.length then fl ++ scrQ A B k x1 (y1 + 1) fx1 fy1 else fl ++ scrQ A B k x1 y1 fx1 fy1) = q → qs ++ q = scrQ A B D 0 0 0 0) := fun q hq => by
        rw [← HS.out, ← hq]
        have e1 := HX1.out
        have e2 := HY1.out
        have hcb : cb = decide (0 < s) := by rw [← HCB.out]; congr 1; simp
        congr 1
        have f1 : (if 0 < s then x1 else fx) = fx1 := by rw [← hfx1, hcb]; simp
        have f2 : (if 0 < s then y1 else fy) = fy1 := by rw [← hfy1, hcb]; simp
        have f3 : (if 0 < s then qdL fx x fy y else []) = fl := by rw [← hfl, hcb]; simp
        rw [scrQ_succ HSE.out e1 e2 hP f1 f2 f3]
        by_cases hc : x1 < A.length ∧ P ≤ (x1 : Int) + 1
        · rw [if_pos hc, if_pos (by rw [← hcc]; exact decide_eq_true hc)]
        · rw [if_neg hc, if_neg (by rw [← hcc]; simpa using hc)]
      have hkk : rs.length = D + 1 := hlen
      have y1q : IntKind.i64.wrap (((k + 1 : Nat) : Int) - 1) = (k : Int) := by rw [show ((k + 1 : Nat) : Int) - 1 = (k : Int) by omega]; exact wrapI (by omega) (by omega)
      have y2q : IntKind.i64.wrap ((x1 : Int) + 1) = (x1 : Int) + 1 := wrapI (by omega) (by omega)
      have y3q : IntKind.i64.wrap ((x1 : Int) + 1 - (y1 : Int)) = (x1 : Int) + 1 - (y1 : Int) := wrapI (by omega) (by omega)
      have y4q : (0 : Int) ≤ (k : Int) := by omega
      have y5q : (k : Int) < (rs.length : Int) := by omega
      clear hv2 heach b1 b2 b3 hrk hP CAT hcc hfx1 hfy1 hfl hkk
      generalize (rowF A B k).low = low at *
      generalize (rowF A B k).frm.length = fln at *
      go_upto_region 17 with fail
      go_cut [100] (fun u wx => u = .bool cc ∧ Fr0 W7 wx)
      case first =>
        by_cases hxl : x1 < A.length
        · have w1 : decide ((x1 : Int) < (A.length : Int)) = true := decide_eq_true (by omega)
          have hc2 : cc = decide (P ≤ (x1 : Int) + 1) := by rw [← HCC.out]; congr 1; simp [hxl]
          subst hc2
          clear HCC
          go_wp2_with fail
          refine HCAT.out.mono ?_
          rintro e w8 ⟨rfl, f8⟩
          go_wp2_with fail
          go_meet
          exact ⟨rfl, f8⟩
        · have w1 : decide ((x1 : Int) < (A.length : Int)) = false := decide_eq_false (by omega)
          have hc2 : cc = false := by rw [← HCC.out]; exact decide_eq_false (fun h => hxl h.1)
          subst hc2
          clear HCC
          go_wp2_with fail
          go_meet
          exact ⟨rfl, Fr0.refl W7⟩
      case rest =>
      obtain ⟨rfl, hf8⟩ := hcut
      rename World => W8
      have HW8 := Lib.hid (HW7.out.next0 hf8)
      have HXL : Hid (cc = true → x1 < A.length) := fun h => by
        have := HCC.out
        rw [h] at this
        exact (of_decide_eq_true this).1
      clear hf8 HW7 HCAT c0 c1 c2 c3 c4 c5 lt cf r0 r1 lg hR HCC
      obtain ⟨c0, c1, c2, c3, c4, c5, lt, cf⟩ := cells6t HW8.out.tab.box
      cases cc with
      | true =>
        have hxl := HXL.out rfl
        have HS9 := Lib.hid (HNX.out _ rfl)
        rw [if_pos rfl] at HS9
        go_wp2_with fail
        go_roundg k
        case measure => have := HDE.out; omega
        case rel => exact ⟨k, x1 + 1, y1, fx1, fy1, L7, qs ++ fl, cs7, _, rfl, by go_num, rfl, rfl, rfl, rfl, rfl, HW8.out, HG7.out, HQ7.out, (by rw [List.append_assoc]; exact HS9.out), by omega, hf7.2.1, by omega, hf7.2.2.2, by omega, (by have := HL7.out; omega)⟩
      | false =>
        by_cases hyl : y1 < B.length
        · have w1 : decide ((y1 : Int) < (B.length : Int)) = true := decide_eq_true (by omega)
          have HS9 := Lib.hid (HNX.out _ rfl)
          rw [if_neg (by decide), if_pos hyl] at HS9
          go_wp2_with fail
          go_roundg k
          case measure => have := HDE.out; omega
          case rel => exact ⟨k, x1, y1 + 1, fx1, fy1, L7, qs ++ fl, cs7, _, rfl, rfl, by go_num, rfl, rfl, rfl, rfl, HW8.out, HG7.out, HQ7.out, (by rw [List.append_assoc]; exact HS9.out), hf7.1, by omega, hf7.2.2.1, by omega, by omega, (by have := HL7.out; omega)⟩
        · have w1 : decide ((y1 : Int) < (B.length : Int)) = false := decide_eq_false (by omega)
          have HS9 := Lib.hid (HNX.out _ rfl)
          rw [if_neg (by decide), if_neg hyl] at HS9
          go_wp2_with fail
          go_roundg k
          case measure => have := HDE.out; omega
          case rel => exact ⟨k, x1, y1, fx1, fy1, L7, qs ++ fl, cs7, _, rfl, rfl, rfl, rfl, rfl, rfl, rfl, HW8.out, HG7.out, HQ7.out, (by rw [List.append_assoc]; exact HS9.out), hf7.1, hf7.2.1, hf7.2.2.1, hf7.2.2.2, by omega, (by have := HL7.out; omega)⟩

end Go.Proofs.YtodmpcnpedpheaaGreatDoor

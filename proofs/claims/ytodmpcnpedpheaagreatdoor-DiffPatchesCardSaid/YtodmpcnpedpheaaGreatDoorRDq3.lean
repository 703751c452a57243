/- The walk of table.next. -/
import Derived.Test.YtodmpcnpedpheaaGreatDoorRPx5
set_option linter.unusedSimpArgs false
set_option linter.unusedVariables false
namespace Go.Proofs.YtodmpcnpedpheaaGreatDoor
open Go.RowKit

/-- A row that is being made. -/
structure NxW (B0 : Nat) (w W : World) (pp tp p mb : Nat) (most : Int) (L : List Ent) (low : Int) (l : List Int) (v : Value) : Prop where
  ex : ∃ T, Pq B0 W pp tp p mb most L T
  kx : Kx B0 mb w W
  res : W.heap[w.heap.size]? = some (Obj.cells #[.int .i64 0, .slice none 0 0] 143 (0, 0))
  box : W.heap[w.heap.size + 1]? = some (Obj.cells #[.int .i64 low, v] 143 (0, 0))
  row : frmO w.heap.size W v l

theorem NxW.next {B0 : Nat} {w W W' : World} {pp tp p mb : Nat} {most : Int} {L : List Ent} {low : Int} {l : List Int} {v : Value} (h : NxW B0 w W pp tp p mb most L low l v) (hp : ∃ T, Pq B0 W' pp tp p mb most L T) (hk : Kx B0 mb W W') : NxW B0 w W' pp tp p mb most L low l v :=
  ⟨hp, Ks.trans h.kx hk, hk.cells _ _ _ _ h.res (by decide) id, hk.cells _ _ _ _ h.box (by decide) id, Kx.owns hk h.row (by decide)⟩
theorem NxW.next0 {B0 : Nat} {w W W' : World} {pp tp p mb : Nat} {most : Int} {L : List Ent} {low : Int} {l : List Int} {v : Value} (h : NxW B0 w W pp tp p mb most L low l v) (hf : Fr0 W W') : NxW B0 w W' pp tp p mb most L low l v := by
  obtain ⟨T, hP⟩ := h.ex
  exact h.next ⟨T, hP.kept0 hf⟩ (Ks.of0 hf)

theorem NxW.push {B0 : Nat} {w W w4 : World} {pp tp p mb : Nat} {most : Int} {L : List Ent} {low : Int} {l : List Int} {v v' : Value} {y : Int} (h : NxW B0 w W pp tp p mb most L low l v) (hB : B0 ≤ w.heap.size)
    (hO : w4.ownsRow w.heap.size 3 1 v' (l ++ [y]).length ((l ++ [y]).map fun x => Value.int .i64 x)) (hg : (W.alloc (.cells #[.int .i64 y] 3 (0, 0))).grownBy w4 v.ownBlock) :
    w4.heap[w.heap.size + 1]? = some (Obj.cells #[.int .i64 low, v] 143 (0, 0)) ∧ NxW B0 w (w4.setCell ⟨w.heap.size + 1, 1, none⟩ v') pp tp p mb most L low (l ++ [y]) v' := by
  obtain ⟨T, hP⟩ := h.ex
  have hrow : ∀ k, v.ownBlock = some k → w.heap.size ≤ k ∧ ∃ cur, W.heap[k]? = some (Obj.cells cur 3 (0, 0)) := fun k hk => by
    obtain ⟨cur, hc⟩ := owns_block h.row hk
    exact ⟨(World.ownsRow.lt h.row k hk).1, cur, hc⟩
  have F4 : Fr (fun k => v.ownBlock = some k) W w4 := Fr.grown (S := fun k => v.ownBlock = some k) (Fr0.fr ((Fr0.refl W).alloc (.cells #[.int .i64 y] 3 (0, 0)))) hg (fun k hk _ => hk)
  have nb : ∀ k, v.ownBlock = some k → ∀ cs f, W.heap[k]? = some (Obj.cells cs 143 f) → False := fun k hk cs f hc => by
    obtain ⟨_, cur, h2⟩ := hrow k hk
    exact ne_of_types h2 hc (by decide) rfl
  have b4 := F4.kept h.box (fun e => nb _ e _ _ h.box)
  have r4 := F4.kept h.res (fun e => nb _ e _ _ h.res)
  have K4 : Ko B0 W w4 := (Ko.refl B0 W).fr F4 (fun k hk => by
    obtain ⟨h1, cur, h2⟩ := hrow k hk
    exact ⟨by omega, _, _, _, h2, by decide⟩)
  have F5 : Fr (fun k => k = w.heap.size + 1) w4 (w4.setCell ⟨w.heap.size + 1, 1, none⟩ v') := fr_set1 (Fr.refl _ w4) 1 v'
  have K5 : Ko B0 w4 (w4.setCell ⟨w.heap.size + 1, 1, none⟩ v') := (Ko.refl B0 w4).fr F5 (fun k hk => by subst hk; exact ⟨by omega, _, _, _, b4, by decide⟩)
  refine ⟨b4, ⟨T, (hP.keptO K4).keptO K5⟩, Ks.fr (Ks.fr h.kx F4 (fun i hi e => ?_)) F5 (fun i hi e => by omega), F5.kept r4 (by omega), setCell_block b4 1 v', F5.owns hO (fun k hk e => ?_)⟩
  · have := (hrow i e).1; omega
  · obtain ⟨cur, hc⟩ := owns_block hO hk
    rw [e] at hc
    exact ne_of_types hc b4 (by decide) rfl

theorem NxW.put {B0 : Nat} {w W : World} {pp tp p mb : Nat} {most : Int} {L : List Ent} {low : Int} {l : List Int} {v : Value} (h : NxW B0 w W pp tp p mb most L low l v) (hB : B0 ≤ w.heap.size) :
    ((W.setCell ⟨w.heap.size, 0, none⟩ (.int .i64 low)).setCell ⟨w.heap.size, 1, none⟩ v).heap[w.heap.size]? = some (Obj.cells #[.int .i64 low, v] 143 (0, 0)) ∧
    frmO w.heap.size ((W.setCell ⟨w.heap.size, 0, none⟩ (.int .i64 low)).setCell ⟨w.heap.size, 1, none⟩ v) v l ∧
    (∃ T, Pq B0 ((W.setCell ⟨w.heap.size, 0, none⟩ (.int .i64 low)).setCell ⟨w.heap.size, 1, none⟩ v) pp tp p mb most L T) ∧
    Kx B0 mb w ((W.setCell ⟨w.heap.size, 0, none⟩ (.int .i64 low)).setCell ⟨w.heap.size, 1, none⟩ v) := by
  obtain ⟨T, hP⟩ := h.ex
  have F : Fr (fun k => k = w.heap.size) W ((W.setCell ⟨w.heap.size, 0, none⟩ (.int .i64 low)).setCell ⟨w.heap.size, 1, none⟩ v) := fr_set1 (fr_set1 (Fr.refl _ W) 0 _) 1 _
  have K : Ko B0 W ((W.setCell ⟨w.heap.size, 0, none⟩ (.int .i64 low)).setCell ⟨w.heap.size, 1, none⟩ v) := (Ko.refl B0 W).fr F (fun k hk => by subst hk; exact ⟨hB, _, _, _, h.res, by decide⟩)
  refine ⟨put2 h.res _ _, F.owns h.row (fun k hk e => ?_), ⟨T, hP.keptO K⟩, Ks.fr h.kx F (fun i hi e => by omega)⟩
  obtain ⟨cur, hc⟩ := owns_block h.row hk
  rw [e] at hc
  exact ne_of_types hc h.res (by decide) rfl

/-- What next leaves. -/
def NxPost (B0 : Nat) (w : World) (pp tp p mb : Nat) (most : Int) (L : List Ent) (r : RowD) (e : Ending) (w' : World) : Prop :=
  ∃ v', e = .returned (.tuple #[.agg #[.int .i64 r.low, v'], .nilIface]) ∧ frmO w.heap.size w' v' r.frm ∧ (∃ T, Pq B0 w' pp tp p mb most L T) ∧ Kx B0 mb w w'

set_option maxRecDepth 100000 in
set_option maxHeartbeats 4000000 in
theorem df_next {B0 base : Nat} {w : World} {pp tp p mb tb : Nat} {most : Int} {L : List Ent} {T : List KRow} {a b : Int} {A B : List Int} {rs : List (RowD × Value)} {v : Value} (hp : Pq B0 w pp tp p mb most L T) (h : TabD base w tb pp a b A.length B.length rs v) (hR : ∀ i (hi : i < rs.length), rs[i].1 = rowF A B i) (ha : SigOk L a) (hb : SigOk L b) (eA : txt L a = A) (eB : txt L b = B) (hA : A.length ≤ 300) (hB : B.length ≤ 300) (he : rs.length ≤ 256) :
    Calls Tryz.prog 60 #[.pointer (some ⟨tb, 0, none⟩)] w (NxPost B0 w pp tp p mb most L (rowF A B rs.length)) := by
  obtain ⟨va, vc, rfl⟩ := owns_form h.row
  obtain ⟨c0, c1, c2, c3, c4, c5, lt, cf⟩ := cells6t h.box
  have hBw := hp.base
  have HP := Lib.hid hp
  have HH := Lib.hid h
  obtain ⟨low, hlow⟩ : ∃ low, dlow A B rs.length = low := ⟨_, rfl⟩
  obtain ⟨high, hhigh⟩ : ∃ high, dhigh A B rs.length = high := ⟨_, rfl⟩
  have hlow' : max ((A.length : Int) - B.length - (rs.length : Int)) (-(256 - (rs.length : Int))) = low := hlow
  have hhigh' : min ((A.length : Int) - B.length + (rs.length : Int)) (256 - (rs.length : Int)) = high := hhigh
  have hrow : Hid (rowF A B rs.length = ⟨low, (List.range (high - low + 1).toNat).map fun (i : Nat) => atF A B rs.length (low + (i : Int))⟩) := by
    show _ = _
    unfold rowF; rw [hlow, hhigh]
  have hlb : -600 ≤ low ∧ low ≤ 300 := by omega
  have hhb : high ≤ 256 := by omega
  have q1 : IntKind.i64.wrap (256 - (rs.length : Int)) = 256 - (rs.length : Int) := wrapI (by omega) (by omega)
  have q2 : IntKind.i64.wrap ((A.length : Int) - (B.length : Int)) = (A.length : Int) - (B.length : Int) := wrapI (by omega) (by omega)
  have q3 : IntKind.i64.wrap ((A.length : Int) - (B.length : Int) - (rs.length : Int)) = (A.length : Int) - (B.length : Int) - (rs.length : Int) := wrapI (by omega) (by omega)
  have q4 : IntKind.i64.wrap ((A.length : Int) - (B.length : Int) + (rs.length : Int)) = (A.length : Int) - (B.length : Int) + (rs.length : Int) := wrapI (by omega) (by omega)
  have q5 : IntKind.i64.wrap (-(256 - (rs.length : Int))) = -(256 - (rs.length : Int)) := wrapI (by omega) (by omega)
  rw [hrow.out]
  have HLO : Hid (dlow A B rs.length = low ∧ dhigh A B rs.length = high) := ⟨hlow, hhigh⟩
  clear hp h hlow hhigh
  go_enter Tryz.func60, Tryz.ntmps60
  go_upto_region 3 with fail
  have F1 : Fr0 w (w.alloc (.cells #[.int .i64 0, .slice none 0 0] 143 (0, 0))) := (Fr0.refl w).alloc _
  have r0 := alloc_at w (.cells #[.int .i64 0, .slice none 0 0] 143 (0, 0)) w.heap.size rfl
  have z0 : (w.alloc (.cells #[.int .i64 0, .slice none 0 0] 143 (0, 0))).heap.size = w.heap.size + 1 := by simp
  generalize w.alloc (.cells #[.int .i64 0, .slice none 0 0] 143 (0, 0)) = W0 at *
  have HF1 := Lib.hid F1
  have HR0 := Lib.hid r0
  have HZ0 := Lib.hid z0
  have hl1 := Lib.hid hlow'
  have hl2 := Lib.hid hhigh'
  have hb0 := F1.kept HH.out.box
  clear c0 c1 c2 c3 c4 c5 lt cf F1 r0 z0 hlow' hhigh'
  obtain ⟨c0, c1, c2, c3, c4, c5, lt, cf⟩ := cells6t hb0
  clear hb0
  go_cut [6] (fun u wx => u = .int .i64 low ∧ Fr0 W0 wx ∧ wx.heap.size = W0.heap.size)
  case first =>
    clear HR0 HF1 HP HH hR hrow hl2 HZ0
    by_cases hm : -(256 - (rs.length : Int)) ≤ (A.length : Int) - (B.length : Int) - (rs.length : Int)
    · have : low = (A.length : Int) - (B.length : Int) - (rs.length : Int) := by rw [← hl1.out]; omega
      subst this
      clear hl1
      go_quiet (fail)
      go_wp2_with fail
      go_meet
      exact ⟨rfl, (Fr0.refl W0).drewN _, by simp⟩
    · have : low = -(256 - (rs.length : Int)) := by rw [← hl1.out]; omega
      subst this
      clear hl1
      go_quiet (fail)
      go_wp2_with fail
      go_meet
      exact ⟨rfl, (Fr0.refl W0).drewN _, by simp⟩
  case rest =>
  obtain ⟨rfl, hF, hz⟩ := hcut
  rename World => W1
  have HF2 := Lib.hid (HF1.out.trans hF)
  have HR1 := Lib.hid (hF.kept HR0.out)
  have HZ1 : Hid (W1.heap.size = w.heap.size + 1) := hz.trans HZ0.out
  have hb1 := HF2.out.kept HH.out.box
  clear c0 c1 c2 c3 c4 c5 lt cf hF hz HZ0 HR0 HF1 hl1
  obtain ⟨c0, c1, c2, c3, c4, c5, lt, cf⟩ := cells6t hb1
  clear hb1
  go_upto_region 4 with fail
  go_cut [7] (fun u wx => u = .int .i64 high ∧ Fr0 W1 wx ∧ wx.heap.size = W1.heap.size)
  case first =>
    clear HR1 HF2 HP HH hR hrow HZ1
    by_cases hm : (A.length : Int) - (B.length : Int) + (rs.length : Int) ≤ 256 - (rs.length : Int)
    · have : high = (A.length : Int) - (B.length : Int) + (rs.length : Int) := by rw [← hl2.out]; omega
      subst this
      clear hl2
      go_quiet (fail)
      go_wp2_with fail
      go_meet
      exact ⟨rfl, (Fr0.refl W1).drewN _, by simp⟩
    · have : high = 256 - (rs.length : Int) := by rw [← hl2.out]; omega
      subst this
      clear hl2
      go_quiet (fail)
      go_wp2_with fail
      go_meet
      exact ⟨rfl, (Fr0.refl W1).drewN _, by simp⟩
  case rest =>
  obtain ⟨rfl, hF, hz⟩ := hcut
  rename World => W2
  have HZ2 : W2.heap.size = w.heap.size + 1 := hz.trans HZ1.out
  have F3 : Fr0 w (W2.alloc (.cells #[.int .i64 low, .slice none 0 0] 143 (0, 0))) := ((HF2.out.trans hF)).alloc _
  have HN : Hid (NxW B0 w (W2.alloc (.cells #[.int .i64 low, .slice none 0 0] 143 (0, 0))) pp tp p mb most L low [] (.slice none 0 0)) :=
    ⟨⟨T, HP.out.kept0 F3⟩, Ks.of0 F3, ((Fr0.refl W2).alloc _).kept (hF.kept HR1.out), alloc_at W2 _ _ HZ2.symm, World.ownsRow_nil _ _ _ _⟩
  clear c0 c1 c2 c3 c4 c5 lt cf hF hz F3 HF2 HR1 hl2 HZ1 HP
  go_wp2_with fail
  obtain ⟨cnt, hcnt⟩ : ∃ cnt, (high - low + 1).toNat = cnt := ⟨_, rfl⟩
  rw [hcnt] at hrow
  generalize W2.alloc (.cells #[.int .i64 low, .slice none 0 0] 143 (0, 0)) = W3 at *
  go_loopg [9] cnt (fun gk d wr => ∃ (i : Nat) (v : Value), d = .int .i64 (low + (i : Int)) ∧ i + gk = cnt ∧ NxW B0 w wr pp tp p mb most L low ((List.range i).map fun (i : Nat) => atF A B rs.length (low + (i : Int))) v)
  case atStart => exact ⟨0, _, by simp, by omega, HN.out⟩
  case round =>
    clear HN
    obtain ⟨i, v, rfl, hik, hN⟩ := hrel
    obtain ⟨va2, vc2, rfl⟩ := owns_form hN.row
    by_cases hlt : i < cnt
    · have z1 : decide (low + (i : Int) ≤ high) = true := decide_eq_true (by omega)
      obtain ⟨l, hl⟩ : ∃ l, ((List.range i).map fun (i : Nat) => atF A B rs.length (low + (i : Int))) = l := ⟨_, rfl⟩
      have hll : l.length = i := by rw [← hl, List.length_map, List.length_range]
      have hnext : Hid ((List.range (i + 1)).map (fun (i : Nat) => atF A B rs.length (low + (i : Int))) = l ++ [atF A B rs.length (low + (i : Int))]) := by
        show _ = _
        rw [List.range_succ, List.map_append, hl]; rfl
      rw [hl] at hN
      have HN := Lib.hid hN
      have HT := Lib.hid (HH.out.keptX hN.kx)
      have CST := Lib.hid (df_step HT.out hR hA hB (by omega) (low + (i : Int)) (by omega) (by omega))
      have hcell := preF_cell (A := A) (B := B) (by omega) rs.length (low + (i : Int))
      have hsl := atF_pre (A := A) (B := B) rs.length (low + (i : Int)) ⟨by rw [HLO.out.1]; omega, by rw [HLO.out.2]; omega⟩
      obtain ⟨x, hx⟩ : ∃ x, preF A B rs.length (low + (i : Int)) = x := ⟨_, rfl⟩
      obtain ⟨y, hy⟩ : ∃ y, atF A B rs.length (low + (i : Int)) = y := ⟨_, rfl⟩
      rw [hx] at CST hcell hsl
      rw [hy] at hsl hnext
      have HCELL := Lib.hid hcell
      have HSL := Lib.hid hsl
      have HIK := Lib.hid hik
      have zi : IntKind.i64.wrap (low + (i : Int) + 1) = low + ((i + 1 : Nat) : Int) := by rw [show low + (i : Int) + 1 = low + ((i + 1 : Nat) : Int) by omega]; exact wrapI (by omega) (by omega)
      have hil : i ≤ 1000000 := by omega
      have hdb : -600 ≤ low + (i : Int) ∧ low + (i : Int) ≤ 300 := by omega
      have CPB : Hid (∀ W T' (x' y' : Nat), Pq B0 W pp tp p mb most L T' → x' ≤ A.length → y' ≤ B.length → Calls Tryz.prog 80 #[.pointer (some ⟨pp, 0, none⟩), .int .i64 a, .int .i64 x', .int .i64 b, .int .i64 y'] W (KyPost B0 W pp tp p mb most L (.tuple #[.int .i64 (csl A B x' y' : Nat), .nilIface]))) := fun W T' x' y' hW h1 h2 => by
        have := px_Before hW ha hb (by rw [eA]; exact hA) (by rw [eB]; exact hB) x' y' (by rw [eA]; exact h1) (by rw [eB]; exact h2)
        rw [eA, eB] at this
        exact this
      clear hN hcell hsl hx hy hl hik
      go_wp2_with fail
      refine CST.out.mono ?_
      rintro e w2 ⟨rfl, f2⟩
      have HN2 := Lib.hid (HN.out.next0 f2)
      have HT2 := Lib.hid (HT.out.kept0 f2)
      clear f2 HN HT CST
      obtain ⟨c0, c1, c2, c3, c4, c5, lt, cf⟩ := cells6t HT2.out.box
      go_upto_if 59 with fail
      go_cut [10] (fun u wx => u = .int .i64 y ∧ (∃ T', Pq B0 wx pp tp p mb most L T') ∧ Kx B0 mb w2 wx)
      case first =>
        rcases HCELL.out with hxn | ⟨x', y', hx1, hxy, hx2, hx3, _⟩
        · have hyn : y = 1152921504606846977 := by rw [HSL.out, hxn]; rfl
          have hxn' : x = 1152921504606846977 := hxn
          subst hxn' hyn
          clear hxn
          have HE := HN2.out.ex
          clear CPB HCELL HSL HN2 HT2
          go_wp2_with fail
          go_meet
          exact ⟨rfl, HE, Ks.refl _ _ _ _⟩
        · subst hx1
          have hcs := csl_le A B x' y'
          have hy2 : y = (x' : Int) - (csl A B x' y' : Nat) := by
            rw [HSL.out]
            unfold sldF
            rw [if_neg (by unfold NONE; omega), Int.toNat_natCast, show ((x' : Int) - (low + (i : Int))).toNat = y' by omega]
          have z2 : ((x' : Int) != 1152921504606846977) = true := bne_iff_ne.2 (by omega)
          have z3 : IntKind.i64.wrap ((x' : Int) - (low + (i : Int))) = (y' : Int) := by rw [show (x' : Int) - (low + (i : Int)) = y' by omega]; exact wrapI (by omega) (by omega)
          obtain ⟨T2, hP2⟩ := HN2.out.ex
          have CPB2 := Lib.hid (fun W (hW : Fr0 w2 W) => CPB.out W T2 x' y' (hP2.kept0 hW) hx2 hx3)
          obtain ⟨c, hc⟩ : ∃ c, csl A B x' y' = c := ⟨_, rfl⟩
          rw [hc] at CPB2 hcs hy2
          have z4 : (c : Int) ≤ (x' : Int) := by omega
          have z5 : (c : Int) ≤ (y' : Int) := by omega
          have z6 : (0 : Int) ≤ (c : Int) := by omega
          have z7 : IntKind.i64.wrap ((x' : Int) - (c : Int)) = (x' : Int) - (c : Int) := wrapI (by omega) (by omega)
          subst hy2
          clear hP2 CPB HCELL HSL hxy hx2 hx3 hcs hc HN2
          have HKC : Hid (∀ W, Kx B0 mb w2 W → W.cell? ⟨tb, 0, none⟩ = some (.pointer (some ⟨pp, 0, none⟩)) ∧ W.cell? ⟨tb, 1, none⟩ = some (.int .i64 a) ∧ W.cell? ⟨tb, 2, none⟩ = some (.int .i64 b)) := fun W h2 => by
            obtain ⟨e0, e1, e2, _⟩ := cells6t (HT2.out.keptX h2).box
            exact ⟨e0, e1, e2⟩
          go_upto_region 11 with fail
          go_cut [11, 12] (fun u11 u12 wx => u11 = .int .i64 (c : Nat) ∧ u12 = .nilIface ∧ (∃ T', Pq B0 wx pp tp p mb most L T') ∧ Kx B0 mb w2 wx)
          case first =>
            go_region_held3 (fun w' => w'.cell? ⟨tb, 0, none⟩ = some (.pointer (some ⟨pp, 0, none⟩)) ∧ w'.cell? ⟨tb, 1, none⟩ = some (.int .i64 a) ∧ w'.cell? ⟨tb, 2, none⟩ = some (.int .i64 b))
              (exact HKC.out _ (by first | exact Ks.refl _ _ _ _ | exact (Ks.refl _ _ _ _).drew | exact (Ks.refl _ _ _ _).drew.trans (by assumption)))
              ((first | (go_at_call 80; (with_reducible refine Calls.mono (CPB2.out _ (by first | exact Fr0.refl _ | exact (Fr0.refl _).drew)) ?_); rintro e w5 ⟨T5, rfl, hp5, hx5⟩)))
            all_goals
              go_wp2_with fail
              go_meet
              exact ⟨rfl, rfl, ⟨T5, hp5⟩, Ks.trans (Ks.of0 (Fr0.refl w2).drew) hx5⟩
          case rest =>
          obtain ⟨rfl, rfl, hp5, hx5⟩ := hcut
          have HP5 := Lib.hid hp5
          have HX5 := Lib.hid hx5
          clear hp5 hx5 HKC CPB2 c0 c1 c2 c3 c4 c5 lt cf
          go_wp2_with fail
          go_meet
          exact ⟨rfl, HP5.out, HX5.out⟩
      case rest =>
      obtain ⟨rfl, hp5, hx5⟩ := hcut
      rename World => w5
      have HN5 := Lib.hid (HN2.out.next hp5 hx5)
      clear hp5 hx5 HN2 HT2 c0 c1 c2 c3 c4 c5 lt cf CPB HCELL HSL
      obtain ⟨c0, c1, cf, lx⟩ := cells2 HN5.out.box
      have hb5 : w.heap.size ≤ w5.heap.size := HN5.out.kx.size
      have hrw := HN5.out.row
      unfold frmO at hrw
      have HRW := Lib.hid hrw
      clear hrw
      have hlm : l.length ≤ 1000000 := by omega
      clear hll
      go_wp2_with (at_builtin; refine wpList_pushR rt_int rfl _ _ rfl w.heap.size (.slice va2 l.length vc2) l rfl HRW.out hb5 3 y 1 _ rfl rfl hlm ?_; intro v' w6 hO6 hg6 hat6; obtain ⟨hb6, hn6⟩ := HN5.out.push hBw hO6 hg6; have HN6 := Lib.hid hn6; obtain ⟨ga, gc, rfl⟩ := owns_form hO6; clear c0 c1 cf lx hO6 hg6 hat6 hn6; obtain ⟨c0, c1, cf, lx⟩ := cells2 hb6; clear hb6)
      go_roundg (gk - 1)
      case measure => have := HIK.out; omega
      case rel =>
        have h6 := HN6.out
        rw [show (l ++ [y]).length = l.length + 1 by simp, ← hnext.out] at h6
        exact ⟨i + 1, _, congrArg (Value.int .i64) (by omega), by have := HIK.out; omega, h6⟩
    · have z1 : decide (low + (i : Int) ≤ high) = false := decide_eq_false (by omega)
      have hic : i = cnt := by omega
      subst hic
      obtain ⟨c0, c1, cf, lx⟩ := cells2 hN.box
      obtain ⟨d0, d1, df, ld⟩ := cells2 hN.res
      have HPUT := Lib.hid (hN.put hBw)
      clear hN
      go_wp2_with fail
      have hli : ((List.range i).map fun (i : Nat) => atF A B rs.length (low + (i : Int))).length = i := by rw [List.length_map, List.length_range]
      obtain ⟨hb, ho, hq, hk⟩ := HPUT.out
      rw [hli] at hb ho hq hk
      generalize (wr.setCell ⟨w.heap.size, 0, none⟩ (.int .i64 low)).setCell ⟨w.heap.size, 1, none⟩ (.slice va2 i vc2) = W' at *
      clear c0 c1 cf lx d0 d1 df ld HPUT
      obtain ⟨d0, d1, df, ld⟩ := cells2 hb
      refine bodyPost_ret (v := .tuple #[.agg #[.int .i64 low, .slice va2 i vc2], .nilIface]) (by simp [results, Tryz.results60, go_sem, d0, d1]) rfl ⟨_, rfl, ?_, hq, hk⟩
      rw [hcnt]
      exact ho

end Go.Proofs.YtodmpcnpedpheaaGreatDoor

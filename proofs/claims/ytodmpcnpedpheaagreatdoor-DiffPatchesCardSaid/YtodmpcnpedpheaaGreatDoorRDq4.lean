/- The walk of compare, Distance, Ratio. -/
import Derived.Test.YtodmpcnpedpheaaGreatDoorRDq3
import Derived.Deep.RegionHeld3
import Derived.Deep.AppendLies
set_option linter.unusedSimpArgs false
set_option linter.unusedVariables false
namespace Go.Proofs.YtodmpcnpedpheaaGreatDoor
open Go.RowKit

theorem info_drow : (Tryz.prog.info? 143).map (fun i => (i.zero, i.size, i.bytes)) = some (some (.agg #[.int .i64 0, .slice none 0 0]), 2, 32) := by kernel_rfl
theorem rt_drow : RT 97 143 2 32 := by
  obtain ⟨i, h1, h2, h3, h4⟩ := info_parts info_drow
  exact ⟨by omega, i, _, by kernel_rfl, h1, h2, h3, h4, rfl⟩

theorem step_pushD {α : Type} {vals : α → List Value} {ST T : TypeId} {size bytes : Nat} (hT : RT ST T size bytes) {w : World} {ops : Array Oper} {o : Oper} {a : Act} {K : Act → World → Prop} {Q : Exit → Act → World → Prop} {E : Prop} (hgd : o.guard = none) (s x : Operand)
    (ho : o.op = .call { callee := .builtin .append, args := #[s, x], argTypes := #[ST, ST] })
    (base : Nat) (v : Value) (xs : List α) (hs : a.eval s = v) (hown : w.ownsRow base T size v xs.length (xs.flatMap vals)) (hb : base ≤ w.heap.size) (T' : TypeId) (y : α) (cs : Array Value) (hcs : cs.toList = vals y) (hy : (vals y).length = size) (h1 : ∀ u ∈ vals y, u.oneCell' = true)
    (c H : Nat) (hH : w.heap.size = H) (hx : a.eval x = .slice (some ⟨H, 0, none⟩) 1 c) (hbytes : bytes ≤ 100) (hlen : xs.length ≤ 1000000)
    (h : ∀ g cap w', w'.ownsRow base T size (.slice (some ⟨g, 0, none⟩) (xs.length + 1) cap) (xs ++ [y]).length ((xs ++ [y]).flatMap vals) → (w.alloc (.cells cs T' (0, 0))).drew.grownBy w' v.ownBlock → K (a.put o.dst (.slice (some ⟨g, 0, none⟩) (xs.length + 1) cap)) w') :
    if Region.wanted o (yielded ops a.tmps) = true then Oper.wp Tryz.prog o a (w.alloc (.cells cs T' (0, 0))).drew K Q else E := by
  subst hH
  obtain ⟨hp, i, z, hu, hi, hz, hs', hby, hzs⟩ := hT
  have hby2 : (xs.length + 1) * bytes ≤ 140737488355328 := by
    have : (xs.length + 1) * bytes ≤ 1000001 * 100 := Nat.mul_le_mul (by omega) hbytes
    omega
  refine step_append_lies _ hgd s x ST ho base T i z size bytes hu hi hz hs' hby hzs hp v xs.length _ hs ((hown.alloc _).drew) ⟨w.heap.size, 0, none⟩ 1 c (vals y) hx (by rw [hy]; omega) ?_ h1 (by omega) (by unfold maxLen; omega) hby2 (by simp; omega) (w.heap.size + 1) (by simp) ?_
  · intro j u hj
    have h := World.news_of_block (cs := cs) (t := T') (fr := (0, 0)) (heap_alloc_new w (.cells cs T' (0, 0)))
    rw [← hcs] at hj
    exact h j u hj
  · intro g cap w' q1 q2 _ _
    exact h g cap w' (by simpa using q1) q2

/-- A comparison under way. -/
structure CqW (B0 : Nat) (w W : World) (pp tp p mb : Nat) (most : Int) (L : List Ent) (tb : Nat) (a b n m : Int) (rs : List (RowD × Value)) (v : Value) : Prop where
  ex : ∃ T, Pq B0 W pp tp p mb most L T
  kx : Kx B0 mb w W
  tab : TabD w.heap.size W tb pp a b n m rs v
  new : w.heap.size ≤ tb

theorem CqW.next {B0 : Nat} {w W W' : World} {pp tp p mb : Nat} {most : Int} {L : List Ent} {tb : Nat} {a b n m : Int} {rs : List (RowD × Value)} {v : Value} (h : CqW B0 w W pp tp p mb most L tb a b n m rs v) (hp : ∃ T, Pq B0 W' pp tp p mb most L T) (hk : Kx B0 mb W W') : CqW B0 w W' pp tp p mb most L tb a b n m rs v :=
  ⟨hp, Ks.trans h.kx hk, h.tab.keptX hk, h.new⟩
theorem CqW.next0 {B0 : Nat} {w W W' : World} {pp tp p mb : Nat} {most : Int} {L : List Ent} {tb : Nat} {a b n m : Int} {rs : List (RowD × Value)} {v : Value} (h : CqW B0 w W pp tp p mb most L tb a b n m rs v) (hf : Fr0 W W') : CqW B0 w W' pp tp p mb most L tb a b n m rs v := by
  obtain ⟨T, hP⟩ := h.ex
  exact h.next ⟨T, hP.kept0 hf⟩ (Ks.of0 hf)

theorem CqW.push {B0 : Nat} {w W w4 : World} {pp tp p mb : Nat} {most : Int} {L : List Ent} {tb : Nat} {a b n m : Int} {rs : List (RowD × Value)} {v v' : Value} {r : RowD × Value} {W1 : World} (h : CqW B0 w W pp tp p mb most L tb a b n m rs v) (hB : B0 ≤ w.heap.size) (hr : frmO w.heap.size W r.2 r.1.frm)
    (hO : w4.ownsRow w.heap.size 143 2 v' (rs ++ [r]).length ((rs ++ [r]).flatMap rwZ)) (hf1 : Fr0 W W1) (hg : W1.grownBy w4 v.ownBlock) :
    w4.heap[tb]? = some (Obj.cells #[.pointer (some ⟨pp, 0, none⟩), .int .i64 a, .int .i64 b, .int .i64 n, .int .i64 m, v] 99 (0, 0)) ∧ CqW B0 w (w4.setCell ⟨tb, 5, none⟩ v') pp tp p mb most L tb a b n m (rs ++ [r]) v' ∧ Fr (fun k => k = tb ∨ v.ownBlock = some k) W (w4.setCell ⟨tb, 5, none⟩ v') := by
  obtain ⟨T, hP⟩ := h.ex
  have hrow : ∀ k, v.ownBlock = some k → w.heap.size ≤ k ∧ ∃ cur, W.heap[k]? = some (Obj.cells cur 143 (0, 0)) := fun k hk => by
    obtain ⟨cur, hc⟩ := owns_block h.tab.row hk
    exact ⟨(World.ownsRow.lt h.tab.row k hk).1, cur, hc⟩
  have F4 : Fr (fun k => v.ownBlock = some k) W w4 := Fr.grown (S := fun k => v.ownBlock = some k) (Fr0.fr hf1) hg (fun k hk _ => hk)
  have b4 := F4.kept h.tab.box (fun e => by
    obtain ⟨_, cur, h2⟩ := hrow _ e
    exact ne_of_types h2 h.tab.box (by decide) rfl)
  have K4 : Ko B0 W w4 := (Ko.refl B0 W).fr F4 (fun k hk => by
    obtain ⟨h1, cur, h2⟩ := hrow k hk
    exact ⟨by omega, _, _, _, h2, by decide⟩)
  have F5 : Fr (fun k => k = tb) w4 (w4.setCell ⟨tb, 5, none⟩ v') := fr_set1 (Fr.refl _ w4) 5 v'
  have hnew := h.new
  have K5 : Ko B0 w4 (w4.setCell ⟨tb, 5, none⟩ v') := (Ko.refl B0 w4).fr F5 (fun k hk => by subst hk; exact ⟨by omega, _, _, _, b4, by decide⟩)
  have keep : ∀ (u : Value) (l : List Int), frmO w.heap.size W u l → frmO w.heap.size (w4.setCell ⟨tb, 5, none⟩ v') u l := fun u l hu => by
    have h4 : frmO w.heap.size w4 u l := F4.owns hu (fun k hk e => by
      obtain ⟨cur, hc⟩ := owns_block hu hk
      obtain ⟨_, cur2, h2⟩ := hrow k e
      rw [hc] at h2
      cases h2)
    exact F5.owns h4 (fun k hk e => by
      obtain ⟨cur, hc⟩ := owns_block h4 hk
      rw [e] at hc
      exact ne_of_types hc b4 (by decide) rfl)
  refine ⟨b4, ⟨⟨T, (hP.keptO K4).keptO K5⟩, Ks.fr (Ks.fr h.kx F4 (fun i hi e => ?_)) F5 (fun i hi e => by omega), ⟨setCell_block b4 5 v', F5.owns hO (fun k hk e => ?_), fun q hq => ?_⟩, h.new⟩, Fr.trans (Fr.mono F4 (fun _ hk _ => .inr hk)) F5 (fun _ hk _ => .inl hk)⟩
  · have := (hrow i e).1; omega
  · obtain ⟨cur, hc⟩ := owns_block hO hk
    rw [e] at hc
    exact ne_of_types hc b4 (by decide) rfl
  · rcases List.mem_append.1 hq with hq | hq
    · exact keep _ _ (h.tab.each q hq)
    · rw [List.mem_singleton] at hq
      rw [hq]
      exact keep _ _ hr

/-- What compare leaves. -/
def CqPost (B0 : Nat) (w : World) (pp tp p mb : Nat) (most : Int) (L : List Ent) (a b : Int) (A B : List Int) (e : Ending) (w' : World) : Prop :=
  if edp A B 0 0 ≤ 256 then ∃ tb rs v, e = .returned (.tuple #[.pointer (some ⟨tb, 0, none⟩), .nilIface]) ∧ CqW B0 w w' pp tp p mb most L tb a b A.length B.length rs v ∧ rs.length = edp A B 0 0 + 1 ∧ ∀ i (hi : i < rs.length), rs[i].1 = rowF A B i
  else e = .returned (.tuple #[.pointer none, errV 9]) ∧ (∃ T, Pq B0 w' pp tp p mb most L T) ∧ Kx B0 mb w w'

set_option maxRecDepth 100000 in
set_option maxHeartbeats 4000000 in
theorem df_compare {B0 : Nat} {w : World} {pp tp p mb : Nat} {most : Int} {L : List Ent} {T : List KRow} {a b : Int} {A B : List Int} (hp : Pq B0 w pp tp p mb most L T) (ha : SigOk L a) (hb : SigOk L b) (eA : txt L a = A) (eB : txt L b = B) (hA : A.length ≤ 300) (hB : B.length ≤ 300) :
    Calls Tryz.prog 33 #[.pointer (some ⟨pp, 0, none⟩), .int .i64 a, .int .i64 b] w (CqPost B0 w pp tp p mb most L a b A B) := by
  have HP := Lib.hid hp
  have hBw := hp.base
  have CST := Lib.hid (fun W (hW : Fr0 w W) => sig_Store (hp.kept0 hW))
  have hla := txt_len hp.dok hp.sok _ a (Nat.le_refl _) ha.kn
  have hlb := txt_len hp.dok hp.sok _ b (Nat.le_refl _) hb.kn
  rw [eA] at hla
  rw [eB] at hlb
  have CWA := Lib.hid (fun W (hW : Fr0 w W) => sto_Weight (hp.kept0 hW).st a ha.kn)
  have CWB := Lib.hid (fun W (hW : Fr0 w W) => sto_Weight (hp.kept0 hW).st b hb.kn)
  rw [← hla] at CWA
  rw [← hlb] at CWB
  clear hp hla hlb
  generalize (entAt L a).wt = wa at *
  generalize (entAt L b).wt = wb at *
  go_enter Tryz.func33, Tryz.ntmps33
  go_wp2_with fail
  refine (CST.out _ (Fr0.refl w)).mono ?_
  rintro e w1 ⟨rfl, rfl⟩
  go_wp2_with fail
  refine (CST.out _ (Fr0.refl w)).mono ?_
  rintro e w1 ⟨rfl, rfl⟩
  go_wp2_with fail
  refine (CWA.out _ (Fr0.refl w)).mono ?_
  rintro e w1 ⟨rfl, f1⟩
  go_wp2_with fail
  have F2 : Fr0 w (w1.alloc (.cells #[.int .i64 (A.length : Nat), .int .i64 wa.lines, .int .i64 wa.head, .int .i64 wa.tail, .int .u64 wa.val, .int .u64 wa.scale] 126 (0, 0))) := f1.alloc _
  have b2 := alloc_at w1 (.cells #[.int .i64 (A.length : Nat), .int .i64 wa.lines, .int .i64 wa.head, .int .i64 wa.tail, .int .u64 wa.val, .int .u64 wa.scale] 126 (0, 0)) w1.heap.size rfl
  generalize w1.alloc (.cells #[.int .i64 (A.length : Nat), .int .i64 wa.lines, .int .i64 wa.head, .int .i64 wa.tail, .int .u64 wa.val, .int .u64 wa.scale] 126 (0, 0)) = W2 at *
  generalize w1.heap.size = KA at *
  refine (CST.out _ F2).mono ?_
  rintro e w3 ⟨rfl, rfl⟩
  go_wp2_with fail
  refine (CWB.out _ F2).mono ?_
  rintro e w3 ⟨rfl, f3⟩
  go_upto_region 9 with fail
  have F4 : Fr0 w (w3.alloc (.cells #[.int .i64 (B.length : Nat), .int .i64 wb.lines, .int .i64 wb.head, .int .i64 wb.tail, .int .u64 wb.val, .int .u64 wb.scale] 126 (0, 0))) := (F2.trans f3).alloc _
  have b4 := alloc_at w3 (.cells #[.int .i64 (B.length : Nat), .int .i64 wb.lines, .int .i64 wb.head, .int .i64 wb.tail, .int .u64 wb.val, .int .u64 wb.scale] 126 (0, 0)) w3.heap.size rfl
  have b3 := (f3.alloc (.cells #[.int .i64 (B.length : Nat), .int .i64 wb.lines, .int .i64 wb.head, .int .i64 wb.tail, .int .u64 wb.val, .int .u64 wb.scale] 126 (0, 0))).kept b2
  generalize w3.alloc (.cells #[.int .i64 (B.length : Nat), .int .i64 wb.lines, .int .i64 wb.head, .int .i64 wb.tail, .int .u64 wb.val, .int .u64 wb.scale] 126 (0, 0)) = W4 at *
  generalize w3.heap.size = KB at *
  obtain ⟨c0, _, _, _, _, _, lc, _⟩ := cells6t b3
  obtain ⟨d0, _, _, _, _, _, ld, _⟩ := cells6t b4
  have HF4 := Lib.hid F4
  clear f1 f3 F2 b2 b3 b4 CST CWA CWB
  go_wp2_with fail
  have F5 : Fr0 w ((W4.alloc (.cells #[.pointer (some ⟨pp, 0, none⟩), .int .i64 a, .int .i64 b, .int .i64 (A.length : Nat), .int .i64 (B.length : Nat), .slice none 0 0] 99 (0, 0))).alloc (.cells #[.int .i64 a, .int .i64 b] 38 (0, 0))) := (HF4.out.alloc _).alloc _
  have hw4 := Fr.size HF4.out
  have HC : Hid (CqW B0 w ((W4.alloc (.cells #[.pointer (some ⟨pp, 0, none⟩), .int .i64 a, .int .i64 b, .int .i64 (A.length : Nat), .int .i64 (B.length : Nat), .slice none 0 0] 99 (0, 0))).alloc (.cells #[.int .i64 a, .int .i64 b] 38 (0, 0))) pp tp p mb most L W4.heap.size a b A.length B.length [] (.slice none 0 0)) :=
    ⟨⟨T, HP.out.kept0 F5⟩, Ks.of0 F5, ⟨alloc2_0 W4 _ _, World.ownsRow_nil _ _ _ _, fun q hq => by simp at hq⟩, hw4⟩
  have HSB := Lib.hid (alloc2_1 W4 (.cells #[.pointer (some ⟨pp, 0, none⟩), .int .i64 a, .int .i64 b, .int .i64 (A.length : Nat), .int .i64 (B.length : Nat), .slice none 0 0] 99 (0, 0)) (.cells #[.int .i64 a, .int .i64 b] 38 (0, 0)))
  generalize (W4.alloc (.cells #[.pointer (some ⟨pp, 0, none⟩), .int .i64 a, .int .i64 b, .int .i64 (A.length : Nat), .int .i64 (B.length : Nat), .slice none 0 0] 99 (0, 0))).alloc (.cells #[.int .i64 a, .int .i64 b] 38 (0, 0)) = W5 at *
  generalize W4.heap.size = tb at *
  obtain ⟨xa, ea⟩ := ha.top
  obtain ⟨xb, eb⟩ := hb.top
  have CA : Hid (∀ W, (∃ T', Pq B0 W pp tp p mb most L T') → Calls Tryz.prog 59 #[.pointer (some ⟨pp, 0, none⟩), .int .i64 a] W (KyPost B0 W pp tp p mb most L (.tuple #[.int .i64 xa, .nilIface]))) := fun W ⟨T', hW⟩ => by
    have := sig_Top hW a ha.kn
    rw [ea] at this
    exact this
  have CB : Hid (∀ W, (∃ T', Pq B0 W pp tp p mb most L T') → Calls Tryz.prog 59 #[.pointer (some ⟨pp, 0, none⟩), .int .i64 b] W (KyPost B0 W pp tp p mb most L (.tuple #[.int .i64 xb, .nilIface]))) := fun W ⟨T', hW⟩ => by
    have := sig_Top hW b hb.kn
    rw [eb] at this
    exact this
  clear F5 hw4 HF4 HP c0 lc d0 ld ea eb
  go_loopg [60] 2 (fun gk v wr => ((v = .int .i64 0 ∧ gk = 2) ∨ (v = .int .i64 1 ∧ gk = 1) ∨ (v = .int .i64 2 ∧ gk = 0)) ∧ CqW B0 w wr pp tp p mb most L tb a b A.length B.length [] (.slice none 0 0) ∧ wr.heap[tb + 1]? = some (Obj.cells #[.int .i64 a, .int .i64 b] 38 (0, 0)))
  case atStart => exact ⟨.inl ⟨rfl, rfl⟩, HC.out, HSB.out⟩
  case round =>
    clear HC HSB
    obtain ⟨hv, hC, hS⟩ := hrel
    have HC := Lib.hid hC
    have HSB := Lib.hid hS
    obtain ⟨s0, s1, sf, ls⟩ := cells2 hS
    clear hC hS
    rcases hv with ⟨rfl, rfl⟩ | ⟨rfl, rfl⟩ | ⟨rfl, rfl⟩
    · have C := Lib.hid (CA.out _ HC.out.ex)
      go_wp2_with fail
      refine C.out.mono ?_
      rintro e w6 ⟨T6, rfl, hp6, hx6⟩
      have HC6 := Lib.hid (HC.out.next ⟨T6, hp6⟩ hx6)
      have HS6 := Lib.hid (hx6.cells _ _ _ _ HSB.out (by decide) id)
      clear hp6 hx6
      go_wp2_with fail
      go_roundg 1
      case measure => omega
      case rel => exact ⟨.inr (.inl ⟨rfl, rfl⟩), HC6.out, HS6.out⟩
    · have C := Lib.hid (CB.out _ HC.out.ex)
      go_wp2_with fail
      refine C.out.mono ?_
      rintro e w6 ⟨T6, rfl, hp6, hx6⟩
      have HC6 := Lib.hid (HC.out.next ⟨T6, hp6⟩ hx6)
      have HS6 := Lib.hid (hx6.cells _ _ _ _ HSB.out (by decide) id)
      clear hp6 hx6
      go_wp2_with fail
      go_roundg 0
      case measure => omega
      case rel => exact ⟨.inr (.inr ⟨rfl, rfl⟩), HC6.out, HS6.out⟩
    · clear s0 s1 sf ls HSB CA CB
      obtain ⟨c0, c1, c2, c3, c4, c5, lt, cf⟩ := cells6t HC.out.tab.box
      obtain ⟨cg, hcg⟩ : ∃ cg : Bool, decide (256 < max ((A.length : Int) - (B.length : Int)) ((B.length : Int) - (A.length : Int))) = cg := ⟨_, rfl⟩
      have HCG := Lib.hid hcg
      clear hcg
      have q1 : IntKind.i64.wrap ((A.length : Int) - (B.length : Int)) = (A.length : Int) - (B.length : Int) := wrapI (by omega) (by omega)
      have q2 : IntKind.i64.wrap ((B.length : Int) - (A.length : Int)) = (B.length : Int) - (A.length : Int) := wrapI (by omega) (by omega)
      go_upto_region 17 with fail
      go_cut [93] (fun u wx => u = .bool cg ∧ Fr0 wr wx)
      case first =>
        clear HC ha hb
        by_cases hm : (B.length : Int) - (A.length : Int) ≤ (A.length : Int) - (B.length : Int)
        · have : cg = decide (256 < (A.length : Int) - (B.length : Int)) := by rw [← HCG.out, Int.max_eq_left hm]
          subst this
          clear HCG
          go_quiet (fail)
          go_wp2_with fail
          go_meet
          exact ⟨rfl, (Fr0.refl wr).drewN _⟩
        · have : cg = decide (256 < (B.length : Int) - (A.length : Int)) := by rw [← HCG.out, Int.max_eq_right (by omega)]
          subst this
          clear HCG
          go_quiet (fail)
          go_wp2_with fail
          go_meet
          exact ⟨rfl, (Fr0.refl wr).drewN _⟩
      case rest =>
      obtain ⟨rfl, hf⟩ := hcut
      rename World => W7
      have HC7 := Lib.hid (HC.out.next0 hf)
      have hgap := ed_gap A B
      rw [← edp_all] at hgap
      clear hf HC c0 c1 c2 c3 c4 c5 lt cf
      have hn : A.length ≤ 1152921504606846976 := by omega
      cases cg with
      | true =>
        have hgt := of_decide_eq_true HCG.out
        clear HCG
        go_wp2_with fail
        go_ret2
        unfold CqPost
        rw [if_neg (by omega)]
        exact ⟨rfl, HC7.out.ex, HC7.out.kx⟩
      | false =>
        clear HCG hgap q1 q2
        go_wp2_with fail
        go_loopg [16] 257 (fun gk ev wr => ∃ (rs : List (RowD × Value)) (v : Value), ev = .int .i64 (rs.length : Nat) ∧ rs.length + gk = 257 ∧ CqW B0 w wr pp tp p mb most L tb a b A.length B.length rs v ∧ (∀ i (hi : i < rs.length), rs[i].1 = rowF A B i) ∧ ∀ i, i < rs.length → atF A B i 0 ≠ 0)
        case atStart => exact ⟨[], _, rfl, rfl, HC7.out, fun i hi => by simp at hi, fun i hi => by simp at hi⟩
        case round =>
          clear HC7
          rename World => W8
          obtain ⟨rs, v, rfl, hgk, hC, hR, hN⟩ := hrel
          obtain ⟨va, vc, rfl⟩ := owns_form hC.tab.row
          have HC := Lib.hid hC
          have HN := Lib.hid hN
          by_cases he : rs.length ≤ 256
          · have z1 : decide ((rs.length : Int) ≤ 256) = true := decide_eq_true (by omega)
            obtain ⟨T8, hP8⟩ := hC.ex
            have CNX := Lib.hid (df_next hP8 hC.tab hR ha hb eA eB hA hB he)
            obtain ⟨bd1, bd2, bd3⟩ := rowF_bnd hA hB (e := rs.length) (by omega)
            have CAT : Hid (∀ W v', frmO w.heap.size W v' (rowF A B rs.length).frm → Calls Tryz.prog 61 #[.agg #[.int .i64 (rowF A B rs.length).low, v'], .int .i64 0] W fun e w' => e = .returned (.int .i64 (atF A B rs.length 0)) ∧ Fr0 W w') := fun W v' hv => by
              have := df_at hv bd1 bd2 bd3 0 (by omega) (by omega)
              rw [rowF_at] at this
              exact this
            clear hC hP8 hN
            go_wp2_with fail
            refine CNX.out.mono ?_
            rintro e w9 ⟨v9, rfl, hf9, hq9, hx9⟩
            have hf9' := hf9
            unfold frmO at hf9'
            obtain ⟨v9a, v9c, rfl⟩ := owns_form hf9'
            have HC9 := Lib.hid (HC.out.next hq9 hx9)
            have HF9 : Hid (frmO w.heap.size w9 (.slice v9a (rowF A B rs.length).frm.length v9c) (rowF A B rs.length).frm) := owns_dn hf9 HC.out.kx.size
            clear hf9 hf9' hq9 hx9 HC CNX
            obtain ⟨r, hr⟩ : ∃ r, rowF A B rs.length = r := ⟨_, rfl⟩
            rw [hr] at HF9 CAT
            rw [hr]
            go_upto_region 25 with fail
            have F10 : Fr0 w9 (w9.alloc (.cells #[.int .i64 r.low, .slice v9a r.frm.length v9c] 143 (0, 0))) := (Fr0.refl w9).alloc _
            have b10 := alloc_at w9 (.cells #[.int .i64 r.low, .slice v9a r.frm.length v9c] 143 (0, 0)) w9.heap.size rfl
            have hKv : ∀ k, (Value.slice va rs.length vc).ownBlock = some k → k ≠ w9.heap.size := fun k hk => by
              have := (World.ownsRow.lt HC9.out.tab.row k hk).2
              omega
            have hKt : tb ≠ w9.heap.size := by have := lt_of_block HC9.out.tab.box; omega
            generalize w9.alloc (.cells #[.int .i64 r.low, .slice v9a r.frm.length v9c] 143 (0, 0)) = W10 at *
            generalize w9.heap.size = K at *
            have HC10 := Lib.hid (HC9.out.next0 F10)
            have HF10 : Hid (frmO w.heap.size W10 (.slice v9a r.frm.length v9c) r.frm) := F10.owns HF9.out
            have HB10 := Lib.hid b10
            have HKV := Lib.hid hKv
            clear F10 HC9 HF9 hKv
            obtain ⟨c0, c1, c2, c3, c4, c5, lt, cf⟩ := cells6t HC10.out.tab.box
            obtain ⟨e0, e1, ef, le⟩ := cells2 b10
            clear b10
            have hbs : w.heap.size ≤ W10.heap.size := HC10.out.kx.size
            have HROW := Lib.hid HC10.out.tab.row
            have hlen : rs.length ≤ 1000000 := by omega
            go_cut [] (fun wx => ∃ v', CqW B0 w wx pp tp p mb most L tb a b A.length B.length (rs ++ [(r, .slice v9a r.frm.length v9c)]) v' ∧ wx.heap[K]? = some (Obj.cells #[.int .i64 r.low, .slice v9a r.frm.length v9c] 143 (0, 0)))
            case first =>
              go_region_law ((refine step_pushD (vals := rwZ) rt_drow (by rfl) _ _ (by rfl) w.heap.size (.slice va rs.length vc) rs (by rfl) HROW.out hbs 143 (r, .slice v9a r.frm.length v9c) #[.int .i64 r.low, .slice v9a r.frm.length v9c] (by rfl) (by rfl) (by simp [rwZ, Value.oneCell']) 1 W10.heap.size (by rfl) (by rfl) (by omega) hlen ?_; intro g gcap w4 hO4 hg4; obtain ⟨hb4, hc4, hk4⟩ := HC10.out.push hBw HF10.out (by simpa using hO4) ((Fr0.refl W10).alloc _).drew hg4; have HC4 := Lib.hid hc4; have HK4 := Lib.hid (hk4.kept HB10.out (fun e => e.elim (fun e => hKt e.symm) (fun e => HKV.out _ e rfl))); clear c0 c1 c2 c3 c4 c5 lt cf hO4 hg4 hc4 hk4; obtain ⟨c0, c1, c2, c3, c4, c5, lt, cf⟩ := cells6t hb4; clear hb4))
              all_goals
                go_wp2_with fail
                go_meet
                exact ⟨_, HC4.out, HK4.out⟩
            case rest =>
            obtain ⟨v11, hC11, hK11⟩ := hcut
            rename World => W11
            have HC11 := Lib.hid hC11
            have hfr11 := hC11.tab.each _ (List.mem_append_right _ (List.mem_singleton.2 rfl))
            have CAT11 := Lib.hid (CAT.out _ _ hfr11)
            clear hC11 hfr11 c0 c1 c2 c3 c4 c5 lt cf e0 e1 ef le HC10 HF10 HB10 HKV HROW CAT hKt
            obtain ⟨e0, e1, ef, le⟩ := cells2 hK11
            clear hK11
            have hR11 : ∀ i (hi : i < (rs ++ [(r, Value.slice v9a r.frm.length v9c)]).length), (rs ++ [(r, Value.slice v9a r.frm.length v9c)])[i].1 = rowF A B i := fun i hi => by
              rw [List.length_append, List.length_singleton] at hi
              by_cases hlt : i < rs.length
              · rw [List.getElem_append_left hlt]; exact hR i hlt
              · obtain rfl : i = rs.length := by omega
                rw [List.getElem_append_right (Nat.le_refl _)]
                simp [hr]
            have HR11 := Lib.hid hR11
            obtain ⟨z, hz⟩ : ∃ z, atF A B rs.length 0 = z := ⟨_, rfl⟩
            rw [hz] at CAT11
            have HZ := Lib.hid hz
            clear hz hR11
            by_cases hz0 : z = 0
            · subst hz0
              clear hR
              go_wp2_with fail
              refine CAT11.out.mono ?_
              rintro e w12 ⟨rfl, f12⟩
              have HC12 := Lib.hid (HC11.out.next0 f12)
              clear f12
              go_wp2_with fail
              go_ret2
              have hD := atF_dist hn _ HZ.out
              unfold CqPost
              rw [if_pos (by omega)]
              refine ⟨tb, _, v11, rfl, HC12.out, ?_, HR11.out⟩
              rw [List.length_append, List.length_singleton]
              rcases Nat.lt_or_ge (edp A B 0 0) rs.length with h | h
              · exact absurd (atF_found hn (by omega)) (HN.out _ h)
              · omega
            · have z2 : (z == 0) = false := beq_eq_false_iff_ne.2 hz0
              clear hR
              go_wp2_with fail
              refine CAT11.out.mono ?_
              rintro e w12 ⟨rfl, f12⟩
              have HC12 := Lib.hid (HC11.out.next0 f12)
              clear f12
              have zi : IntKind.i64.wrap ((rs.length : Int) + 1) = (((rs ++ [(r, Value.slice v9a r.frm.length v9c)]).length : Nat) : Int) := by
                rw [List.length_append, List.length_singleton]
                exact wrapI (by omega) (by omega)
              go_wp2_with fail
              go_roundg (gk - 1)
              case measure => omega
              case rel =>
                refine ⟨_, v11, ?_, ?_, HC12.out, HR11.out, fun i hi => ?_⟩
                · rw [List.length_append, List.length_singleton]; go_num
                · rw [List.length_append, List.length_singleton]; omega
                · rw [List.length_append, List.length_singleton] at hi
                  by_cases hlt : i < rs.length
                  · exact HN.out i hlt
                  · obtain rfl : i = rs.length := by omega
                    rw [HZ.out]; exact hz0
          · have z1 : decide ((rs.length : Int) ≤ 256) = false := decide_eq_false (by omega)
            have hC' := hC
            clear hC
            go_wp2_with fail
            go_ret2
            unfold CqPost
            rw [if_neg (fun h => HN.out _ (by omega) (atF_found hn h))]
            exact ⟨rfl, HC.out.ex, HC.out.kx⟩

end Go.Proofs.YtodmpcnpedpheaaGreatDoor

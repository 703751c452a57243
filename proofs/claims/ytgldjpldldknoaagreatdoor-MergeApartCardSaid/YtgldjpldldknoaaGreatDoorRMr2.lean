/- The groups in memory, and the walk of merge.divide. -/
import Derived.Test.YtgldjpldldknoaaGreatDoorRKr0
import Derived.Test.YtgldjpldldknoaaGreatDoorRKw5
import Derived.Test.YtgldjpldldknoaaGreatDoorRPx4
import Derived.Test.YtgldjpldldknoaaGreatDoorRAc1
import Derived.BigQuiet
import Derived.BigRegion
import Derived.Deep.RegionHeld3
import Derived.Deep.AppendLies
set_option linter.unusedSimpArgs false
set_option linter.unusedVariables false
namespace Go.Proofs.YtgldjpldldknoaaGreatDoor
open Go.RowKit
theorem info_pgrp : (Tryz.prog.info? 71).map (fun i => (i.zero, i.size, i.bytes)) = some (some (.pointer none), 1, 8) := by kernel_rfl
theorem rt_pgrp : RT 68 71 1 8 := by
 obtain ⟨i, h1, h2, h3, h4⟩ := info_parts info_pgrp
 exact ⟨by omega, i, _, by kernel_rfl, h1, h2, h3, h4, rfl⟩
structure Gm where
 lo : Nat
 hi : Nat
 gb : Nat
 lv : Value
 rv : Value
 g : Grp Chg
@[reducible] def gpz (z : Gm) : List Value := [.pointer (some ⟨z.gb, 0, none⟩)]
structure GmD (w : World) (z : Gm) : Prop where
 box : w.heap[z.gb]? = some (.cells #[z.lv, z.rv, .int .i64 z.g.at_, .int .i64 z.g.end_, .int .i64 0, .int .i64 0, .bool false] 73 (0, 0))
 lo : z.lo ≤ z.gb
 hi : z.gb < z.hi
 lr : w.ownsRow z.lo 55 3 z.lv z.g.left.length (z.g.left.flatMap Chg.vals)
 rr : w.ownsRow z.lo 55 3 z.rv z.g.right.length (z.g.right.flatMap Chg.vals)
 lh : ∀ k, z.lv.ownBlock = some k → k < z.hi
 rh : ∀ k, z.rv.ownBlock = some k → k < z.hi
 ap : ∀ k, z.lv.ownBlock = some k → z.rv.ownBlock ≠ some k
theorem GmD.kept {S : Nat → Prop} {w w' : World} {z : Gm} (h : GmD w z) (hf : Fr S w w') (hS : ∀ k, S k → z.hi ≤ k) : GmD w' z := by
 refine ⟨hf.kept h.box (fun e => by have := hS _ e; have := h.hi; omega), h.lo, h.hi, hf.owns h.lr (fun k hk e => ?_), hf.owns h.rr (fun k hk e => ?_), h.lh, h.rh, h.ap⟩
 · have := hS _ e; have := h.lh k hk; omega
 · have := hS _ e; have := h.rh k hk; omega
structure Dv (w0 wr : World) (gv : Value) (zs : List Gm) : Prop where
 fr : Fr0 w0 wr
 row : wr.ownsRow w0.heap.size 71 1 gv zs.length (zs.flatMap gpz)
 all : ∀ z ∈ zs, GmD wr z ∧ w0.heap.size ≤ z.lo ∧ z.hi ≤ wr.heap.size
 asc : zs.Pairwise fun x y => x.hi ≤ y.lo
theorem Dv.start {w0 wr : World} (h : Fr0 w0 wr) : Dv w0 wr (.slice none 0 0) [] := ⟨h, World.ownsRow_nil _ _ _ _, fun z hz => by simp at hz, List.Pairwise.nil⟩
theorem Dv.kept {S : Nat → Prop} {w0 wr w' : World} {gv : Value} {zs : List Gm} (h : Dv w0 wr gv zs) (hf : Fr S wr w') (hS : ∀ k, S k → wr.heap.size ≤ k) : Dv w0 w' gv zs := by
 have F : Fr0 wr w' := Fr.mono hf (fun i hi hlt => by have := hS i hi; omega)
 exact ⟨h.fr.trans F, F.owns h.row, fun z hz => by
  obtain ⟨a, b, c⟩ := h.all z hz
  exact ⟨a.kept F (fun k hk => hk.elim), b, Nat.le_trans c F.size⟩, h.asc⟩
theorem Dv.new {w0 wr w' : World} {gv gv' : Value} {zs : List Gm} (h : Dv w0 wr gv zs) {at_ end_ : Int}
    (hb : w'.heap[wr.heap.size]? = some (.cells #[.slice none 0 0, .slice none 0 0, .int .i64 at_, .int .i64 end_, .int .i64 0, .int .i64 0, .bool false] 73 (0, 0)))
    (hf : Fr (fun k => gv.ownBlock = some k) wr w')
    (hr : w'.ownsRow w0.heap.size 71 1 gv' (zs ++ [(⟨wr.heap.size, w'.heap.size, wr.heap.size, .slice none 0 0, .slice none 0 0, ⟨at_, end_, [], []⟩⟩ : Gm)]).length ((zs ++ [(⟨wr.heap.size, w'.heap.size, wr.heap.size, .slice none 0 0, .slice none 0 0, ⟨at_, end_, [], []⟩⟩ : Gm)]).flatMap gpz)) :
    Dv w0 w' gv' (zs ++ [⟨wr.heap.size, w'.heap.size, wr.heap.size, .slice none 0 0, .slice none 0 0, ⟨at_, end_, [], []⟩⟩]) := by
 have hlt := lt_of_block hb
 refine ⟨Fr.trans h.fr hf (fun i hi hlt => ?_), hr, fun z hz => ?_, ?_⟩
 · have := (h.row.lt i hi).1; omega
 · rcases List.mem_append.1 hz with hz | hz
   · obtain ⟨a, b, c⟩ := h.all z hz
     refine ⟨⟨hf.kept a.box (fun e => ?_), a.lo, a.hi, hf.owns a.lr (fun k hk e => ?_), hf.owns a.rr (fun k hk e => ?_), a.lh, a.rh, a.ap⟩, b, Nat.le_trans c hf.size⟩
     · obtain ⟨cur, hc⟩ := owns_block h.row e
       rw [a.box] at hc
       cases hc
     · obtain ⟨cur, hc⟩ := owns_block h.row e
       obtain ⟨cur2, hc2⟩ := owns_block a.lr hk
       rw [hc2] at hc
       cases hc
     · obtain ⟨cur, hc⟩ := owns_block h.row e
       obtain ⟨cur2, hc2⟩ := owns_block a.rr hk
       rw [hc2] at hc
       cases hc
   · obtain rfl := List.mem_singleton.1 hz
     exact ⟨⟨hb, Nat.le_refl _, hlt, World.ownsRow_nil _ _ _ _, World.ownsRow_nil _ _ _ _, (fun k hk => by cases hk), (fun k hk => by cases hk), (fun k hk => by cases hk)⟩, h.fr.size, Nat.le_refl _⟩
 · rw [List.pairwise_append]
   refine ⟨h.asc, List.pairwise_singleton _ _, fun x hx y hy => ?_⟩
   rw [List.mem_singleton.1 hy]
   exact (h.all x hx).2.2
theorem Dv.last {S : Nat → Prop} {w0 wr w' : World} {gv : Value} {zs : List Gm} {z z' : Gm} (h : Dv w0 wr gv (zs ++ [z])) (hf : Fr S wr w') (hS : ∀ k, S k → z.lo ≤ k) (hg : ∀ k, gv.ownBlock = some k → ¬ S k) (hd : GmD w' z') (e1 : z'.gb = z.gb) (e2 : z'.lo = z.lo) (e3 : z'.hi ≤ w'.heap.size) : Dv w0 w' gv (zs ++ [z']) := by
 obtain ⟨a, b, c⟩ := h.all z (by simp)
 have hp := List.pairwise_append.1 h.asc
 refine ⟨Fr.trans h.fr hf (fun i hi hlt => by have := hS i hi; omega), ?_, fun y hy => ?_, ?_⟩
 · have := hf.owns h.row hg
   simpa [gpz, e1] using this
 · rcases List.mem_append.1 hy with hy | hy
   · obtain ⟨a', b', c'⟩ := h.all y (by simp [hy])
     exact ⟨a'.kept hf (fun k hk => Nat.le_trans (hp.2.2 y hy z (by simp)) (hS k hk)), b', Nat.le_trans c' hf.size⟩
   · obtain rfl := List.mem_singleton.1 hy
     exact ⟨hd, by omega, e3⟩
 · rw [List.pairwise_append]
   exact ⟨hp.1, List.pairwise_singleton _ _, fun x hx y hy => by rw [List.mem_singleton.1 hy, e2]; exact hp.2.2 x hx z (by simp)⟩
theorem mrgS_left {c : Chg} {p q : List Chg} (h : q = [] ∨ ∃ d r, q = d :: r ∧ c.at_ ≤ d.at_) : mrgS Chg.at_ (c :: p) q = (c, true) :: mrgS Chg.at_ p q := by
 rcases h with rfl | ⟨d, r, rfl, h⟩
 · cases p <;> simp [mrgS]
 · rw [mrgS, if_pos h]
theorem mrgS_right {d : Chg} {p q : List Chg} (h : p = [] ∨ ∃ c r, p = c :: r ∧ ¬ c.at_ ≤ d.at_) : mrgS Chg.at_ p (d :: q) = (d, false) :: mrgS Chg.at_ p q := by
 rcases h with rfl | ⟨c, r, rfl, h⟩
 · simp [mrgS]
 · rw [mrgS, if_neg h]
theorem put3dr {w : World} {b : Nat} {x0 x1 x2 : Value} {t : TypeId} {f : Nat × Nat} (h : w.heap[b]? = some (.cells #[x0, x1, x2] t f)) (y0 y1 y2 : Value) : (((w.setCell ⟨b, 0, none⟩ y0).setCell ⟨b, 1, none⟩ y1).setCell ⟨b, 2, none⟩ y2).drew.heap[b]? = some (.cells #[y0, y1, y2] t f) :=
 setCell_block (setCell_block (setCell_block h 0 y0) 1 y1) 2 y2
theorem stepG_by {α : Type} {a n : α → Int} {gs hs : List (Grp α)} {h : Grp α} {y : α × Bool} {nw : Bool} (hnw : nw = match gs.getLast? with | none => true | some g => decide (g.end_ < a y.1)) (e : hs ++ [h] = if nw = true then gs ++ [⟨a y.1, a y.1 + n y.1, [], []⟩] else gs) : stepG a n gs y = hs ++ [h.ext a n y] := by
 rcases list_end gs with rfl | ⟨gs', g, rfl⟩
 · have : nw = true := hnw
   rw [if_pos this] at e
   obtain ⟨e1, e2⟩ := List.append_inj' e rfl
   subst e1
   have e3 : h = ⟨a y.1, a y.1 + n y.1, [], []⟩ := by simpa using e2
   subst e3
   rw [stepG_nil]
   rfl
 · rw [List.getLast?_concat] at hnw
   rw [stepG_snoc]
   by_cases c : g.end_ < a y.1
   · have : nw = true := by rw [hnw]; exact decide_eq_true c
     rw [if_pos this] at e
     obtain ⟨e1, e2⟩ := List.append_inj' e rfl
     subst e1
     have e3 : h = ⟨a y.1, a y.1 + n y.1, [], []⟩ := by simpa using e2
     subst e3
     rw [if_pos c]
     rfl
   · have : ¬ nw = true := by rw [hnw]; simpa using c
     rw [if_neg this] at e
     obtain ⟨e1, e2⟩ := List.append_inj' e rfl
     subst e1
     have e3 : h = g := by simpa using e2
     subst e3
     rw [if_neg c]
theorem rg_next {B : Nat} {w : World} {pa A : Option Addr} {pc : Nat} {c : Chg} {cs : List Chg} (h : RG Chg.vals 3 B w pa (c :: cs)) (hc : (c :: cs).length ≤ pc) (hA : (if pc = 1 then pa else Option.map (fun x => x.add 3) pa) = A) : RG Chg.vals 3 B w A cs := by
 obtain ⟨b, off, rfl, h2, h3, h4⟩ := h 0 (by simp)
 rcases cs with _ | ⟨d, cs⟩
 · exact RG.nil _ _ _ _ _
 · rw [if_neg (by simp only [List.length_cons] at hc; omega)] at hA
   subst hA
   exact h.tail
set_option maxRecDepth 100000 in
set_option maxHeartbeats 4000000 in
theorem mr_divide {B : Nat} {w : World} {a b : Option Addr} {ca cb : Nat} {cs ds : List Chg} (hA : RG Chg.vals 3 B w a cs) (hB : RG Chg.vals 3 B w b ds) (hca : cs.length ≤ ca) (hcb : ds.length ≤ cb) (hc : cs.length + ds.length ≤ 100000) (hn : ∀ c ∈ cs ++ ds, 0 ≤ c.at_ ∧ 0 ≤ c.n ∧ c.at_ + c.n ≤ 1152921504606846976) :
    Calls Tryz.prog 37 #[.slice a cs.length ca, .slice b ds.length cb] w fun e w' => ∃ gv zs, e = .returned gv ∧ Dv w w' gv zs ∧ zs.map Gm.g = dvdG Chg.at_ Chg.n cs ds := by
 obtain ⟨R, hR⟩ : ∃ R, dvdG Chg.at_ Chg.n cs ds = R := ⟨_, rfl⟩
 rw [hR]
 have H0 : Hid (RG Chg.vals 3 B w a cs ∧ RG Chg.vals 3 B w b ds ∧ (∀ c ∈ cs, 0 ≤ c.at_ ∧ 0 ≤ c.n ∧ c.at_ + c.n ≤ 1152921504606846976) ∧ (∀ c ∈ ds, 0 ≤ c.at_ ∧ 0 ≤ c.n ∧ c.at_ + c.n ≤ 1152921504606846976) ∧ (mrgS Chg.at_ cs ds).foldl (stepG Chg.at_ Chg.n) [] = R) := ⟨hA, hB, fun c h => hn c (by simp [h]), fun c h => hn c (by simp [h]), hR⟩
 clear hA hB hn hR
 go_enter Tryz.func37, Tryz.ntmps37
 go_wp2_with fail
 go_loopg [0, 1, 5] (cs.length + ds.length) (fun gk pv qv gv wr => ∃ (pa : Option Addr) (pc : Nat) (cs' : List Chg) (qa : Option Addr) (qc : Nat) (ds' : List Chg) (zs : List Gm), pv = .slice pa cs'.length pc ∧ qv = .slice qa ds'.length qc ∧ cs'.length ≤ pc ∧ ds'.length ≤ qc ∧ gk = cs'.length + ds'.length ∧ RG Chg.vals 3 B w pa cs' ∧ RG Chg.vals 3 B w qa ds' ∧ Dv w wr gv zs
  ∧ (∀ c ∈ cs', 0 ≤ c.at_ ∧ 0 ≤ c.n ∧ c.at_ + c.n ≤ 1152921504606846976) ∧ (∀ c ∈ ds', 0 ≤ c.at_ ∧ 0 ≤ c.n ∧ c.at_ + c.n ≤ 1152921504606846976) ∧ (mrgS Chg.at_ cs' ds').foldl (stepG Chg.at_ Chg.n) (zs.map Gm.g) = R ∧ (∀ z ∈ zs, z.g.left.length + z.g.right.length + gk ≤ 100000) ∧ zs.length + gk ≤ 100000)
 case atStart =>
  obtain ⟨h1, h2, h3, h4, h5⟩ := H0.out
  exact ⟨a, ca, cs, b, cb, ds, [], rfl, rfl, hca, hcb, rfl, h1, h2, Dv.start (Fr0.refl w), h3, h4, h5, (fun z hz => by simp at hz), by simp; omega⟩
 case round =>
  obtain ⟨pa, pc, cs', qa, qc, ds', zs, rfl, rfl, hpc, hqc, hgk, hp, hq, hdv, hnp, hnq, hres, hlen, hzl⟩ := hrel
  clear H0
  by_cases hend : cs' = [] ∧ ds' = []
  · obtain ⟨rfl, rfl⟩ := hend
    have HD := Lib.hid hdv
    have HRS : Hid (zs.map Gm.g = R) := by show _ = _; rw [← hres, mrgS]; rfl
    clear hp hq hdv hnp hnq hres hlen hzl hgk
    go_wp2_with fail
    go_ret
    exact ⟨_, zs, rfl, HD.out, HRS.out⟩
  · obtain ⟨lf, x, cs1, ds1, hm, hl1, hl0, hlf⟩ : ∃ (lf : Bool) (x : Chg) (cs1 ds1 : List Chg), mrgS Chg.at_ cs' ds' = (x, lf) :: mrgS Chg.at_ cs1 ds1 ∧ (lf = true → cs' = x :: cs1 ∧ ds1 = ds') ∧ (lf = false → ds' = x :: ds1 ∧ cs1 = cs') ∧ ((lf = true ∧ ds' = []) ∨ (lf = false ∧ cs' = [] ∧ ds' ≠ []) ∨ (∃ (h1 : 0 < cs'.length) (h2 : 0 < ds'.length), lf = decide (cs'[0].at_ ≤ ds'[0].at_))) := by
      rcases cs' with _ | ⟨c, p⟩
      · rcases ds' with _ | ⟨d, q⟩
        · exact absurd ⟨rfl, rfl⟩ hend
        · exact ⟨false, d, [], q, mrgS_right (.inl rfl), (fun h => by cases h), fun _ => ⟨rfl, rfl⟩, .inr (.inl ⟨rfl, rfl, by simp⟩)⟩
      · rcases ds' with _ | ⟨d, q⟩
        · exact ⟨true, c, p, [], mrgS_left (.inl rfl), fun _ => ⟨rfl, rfl⟩, (fun h => by cases h), .inl ⟨rfl, rfl⟩⟩
        · by_cases h : c.at_ ≤ d.at_
          · exact ⟨true, c, p, d :: q, mrgS_left (.inr ⟨d, q, rfl, h⟩), fun _ => ⟨rfl, rfl⟩, (fun h => by cases h), .inr (.inr ⟨by simp, by simp, (decide_eq_true h).symm⟩)⟩
          · exact ⟨false, d, c :: p, q, mrgS_right (.inr ⟨c, p, rfl, h⟩), (fun h => by cases h), fun _ => ⟨rfl, rfl⟩, .inr (.inr ⟨by simp, by simp, (decide_eq_false h).symm⟩)⟩
    have HP := Lib.hid hp
    have HQ := Lib.hid hq
    have HDV := Lib.hid hdv
    have HFD := Lib.hid hdv.fr
    have HNP := Lib.hid hnp
    have HNQ := Lib.hid hnq
    have HRES := Lib.hid hres
    have HLEN := Lib.hid hlen
    have HM := Lib.hid hm
    have HL1 := Lib.hid hl1
    have HL0 := Lib.hid hl0
    have HLF := Lib.hid hlf
    have hgk1 : gk ≤ 100000 := by omega
    clear hp hq hdv hnp hnq hres hlen hm hl1 hl0 hlf
    have hne : 0 < cs'.length + ds'.length := by
     rcases cs' with _ | ⟨c, p⟩
     · rcases ds' with _ | ⟨d, q⟩
       · exact absurd ⟨rfl, rfl⟩ hend
       · simp
     · simp; omega
    clear hend
    have hlen1 : cs'.length ≤ 100000 := by omega
    have hlen2 : ds'.length ≤ 100000 := by omega
    go_upto_region 2 with fail
    go_cut [16] (fun u wx => u = .bool true ∧ wr = wx)
    case first =>
     by_cases h0 : 0 < cs'.length
     · go_wp2_with fail
       go_meet
       exact ⟨rfl, rfl⟩
     · have h1 : cs'.length = 0 := by omega
       have h2 : 0 < ds'.length := by omega
       go_wp2_with fail
       go_meet
       exact ⟨rfl, rfl⟩
    case rest =>
    obtain ⟨rfl, rfl⟩ := hcut
    go_upto_region 3 with fail
    go_cut [6] (fun u wx => u = .bool lf ∧ Fr0 wr wx)
    case first =>
     clear HDV HNP HNQ HRES HLEN HM HL1 HL0
     rcases HLF.out with ⟨rfl, rfl⟩ | ⟨rfl, rfl, hd⟩ | ⟨p0, q0, hlf3⟩
     · clear HP HQ HLF
       go_quiet (fail)
       go_wp2_with fail
       go_meet
       exact ⟨rfl, (Fr0.refl _).drewN _⟩
     · have h2 : ((ds'.length : Int) == 0) = false := beq_eq_false_iff_ne.2 (by have := List.length_pos_iff.2 hd; omega)
       clear HP HQ HLF hd
       go_quiet (fail)
       go_wp2_with fail
       go_meet
       exact ⟨rfl, (Fr0.refl _).drewN _⟩
     · obtain ⟨pb, po, rfl, lpb, _, hcp⟩ := (HP.out.kept0 HFD.out) 0 p0
       obtain ⟨qb, qo, rfl, lqb, _, hcq⟩ := (HQ.out.kept0 HFD.out) 0 q0
       have c0 := hcp 0 _ rfl
       have d0 := hcq 0 _ rfl
       simp only [Nat.zero_mul, Nat.add_zero] at c0 d0
       have h2 : ((ds'.length : Int) == 0) = false := beq_eq_false_iff_ne.2 (by omega)
       have h3 : decide ((0 : Int) < (cs'.length : Int)) = true := decide_eq_true (by omega)
       have h4 : (0 : Int) < (cs'.length : Int) := by omega
       have h5 : (0 : Int) < (ds'.length : Int) := by omega
       clear HP HQ HLF hcp hcq
       generalize cs'[0].at_ = ax at *
       generalize ds'[0].at_ = ay at *
       by_cases hxy : ax ≤ ay
       · have h6 : decide (ax ≤ ay) = true := decide_eq_true hxy
         obtain rfl := hlf3.trans h6
         clear hxy hlf3
         go_quiet (fail)
         go_wp2_with fail
         go_meet
         exact ⟨rfl, (Fr0.refl _).drewN _⟩
       · have h6 : decide (ax ≤ ay) = false := decide_eq_false hxy
         obtain rfl := hlf3.trans h6
         clear hxy hlf3
         go_quiet (fail)
         go_wp2_with fail
         go_meet
         exact ⟨rfl, (Fr0.refl _).drewN _⟩
    case rest =>
    obtain ⟨rfl, hF⟩ := hcut
    rename World => W2
    have HF2 := Lib.hid hF
    have HW2 := Lib.hid (HFD.out.trans hF)
    have hsW := Fr.size hF
    clear hF HLF
    go_upto_if 36 with fail
    obtain ⟨C, hC⟩ : ∃ C, W2.heap.size = C := ⟨_, rfl⟩
    have F3 : Fr0 W2 (W2.alloc (.cells #[.int .i64 0, .int .i64 0, .int .i64 0] 55 (0, 0))) := (Fr0.refl W2).alloc _
    have b3 := alloc_at W2 (.cells #[.int .i64 0, .int .i64 0, .int .i64 0] 55 (0, 0)) C hC.symm
    rw [hC]
    have HC := Lib.hid hC
    have HF3 := Lib.hid F3
    have hs3 : (W2.alloc (.cells #[.int .i64 0, .int .i64 0, .int .i64 0] 55 (0, 0))).heap.size = C + 1 := by simp [hC]
    generalize W2.alloc (.cells #[.int .i64 0, .int .i64 0, .int .i64 0] 55 (0, 0)) = W3 at *
    have HB3 := Lib.hid b3
    have HS3 := Lib.hid hs3
    clear F3 b3 hC hs3
    go_cut [0, 1] (fun u0 u1 wx => ∃ pa1 pc1 qa1 qc1, u0 = .slice pa1 cs1.length pc1 ∧ u1 = .slice qa1 ds1.length qc1 ∧ cs1.length ≤ pc1 ∧ ds1.length ≤ qc1 ∧ RG Chg.vals 3 B w pa1 cs1 ∧ RG Chg.vals 3 B w qa1 ds1 ∧ Fr0 W2 wx ∧ wx.heap[C]? = some (.cells #[.int .i64 x.at_, .int .i64 x.n, .int .i64 x.text] 55 (0, 0)))
    case first =>
     clear HDV HNP HNQ HRES HLEN HM
     cases lf with
     | true =>
      obtain ⟨rfl, rfl⟩ := HL1.out rfl
      obtain ⟨pb, po, rfl, lpb, _, hcp⟩ := (HP.out.kept0 HW2.out) 0 (by simp)
      have c0 := (HF3.out.cell pb _ lpb).trans (hcp 0 _ rfl)
      have c1 := (HF3.out.cell pb _ lpb).trans (hcp 1 _ rfl)
      have c2 := (HF3.out.cell pb _ lpb).trans (hcp 2 _ rfl)
      have lpb3 : pb < W3.heap.size := by have := HS3.out; have := HC.out; omega
      simp only [Nat.zero_mul, Nat.add_zero, List.getElem_cons_zero] at c0 c1 c2
      obtain ⟨d0, d1, d2, df, ld⟩ := cells3 HB3.out
      have HA := Lib.hid (fun A (hA : (if pc = 1 then (some ⟨pb, po, none⟩ : Option Addr) else Option.map (fun (x : Addr) => x.add 3) (some ⟨pb, po, none⟩)) = A) => rg_next HP.out hpc hA)
      have hpn : cs1.length + 1 ≤ pc := by simpa using hpc
      have hnp : (x :: cs1).length = cs1.length + 1 := by simp
      have HFX : Fr0 W2 (((W3.setCell ⟨C, 0, none⟩ (.int .i64 x.at_)).setCell ⟨C, 1, none⟩ (.int .i64 x.n)).setCell ⟨C, 2, none⟩ (.int .i64 x.text)).drew := (Fr0.setCell (Fr0.setCell (Fr0.setCell HF3.out _ _ (by show _ ≤ C; have := HC.out; omega)) _ _ (by show _ ≤ C; have := HC.out; omega)) _ _ (by show _ ≤ C; have := HC.out; omega)).drew
      have HBX : (((W3.setCell ⟨C, 0, none⟩ (.int .i64 x.at_)).setCell ⟨C, 1, none⟩ (.int .i64 x.n)).setCell ⟨C, 2, none⟩ (.int .i64 x.text)).drew.heap[C]? = some (.cells #[.int .i64 x.at_, .int .i64 x.n, .int .i64 x.text] 55 (0, 0)) := put3dr HB3.out _ _ _
      have HFX2 := Lib.hid HFX
      have HBX2 := Lib.hid HBX
      clear HL1 HL0 hcp HFX HBX HF3 HB3 HS3 HC lpb
      go_wp2_with fail
      go_region
      go_wp2_with fail
      all_goals go_meet
      all_goals (have HFX := HFX2.out; have HBX := HBX2.out)
      · exact ⟨_, _, _, _, rfl, rfl, by omega, by omega, HA.out _ (if_pos h), HQ.out, HFX, HBX⟩
      · exact ⟨_, _, _, _, rfl, rfl, by omega, by omega, HA.out _ (if_neg h), HQ.out, HFX, HBX⟩
     | false =>
      obtain ⟨rfl, rfl⟩ := HL0.out rfl
      obtain ⟨pb, po, rfl, lpb, _, hcp⟩ := (HQ.out.kept0 HW2.out) 0 (by simp)
      have c0 := (HF3.out.cell pb _ lpb).trans (hcp 0 _ rfl)
      have c1 := (HF3.out.cell pb _ lpb).trans (hcp 1 _ rfl)
      have c2 := (HF3.out.cell pb _ lpb).trans (hcp 2 _ rfl)
      have lpb3 : pb < W3.heap.size := by have := HS3.out; have := HC.out; omega
      simp only [Nat.zero_mul, Nat.add_zero, List.getElem_cons_zero] at c0 c1 c2
      obtain ⟨d0, d1, d2, df, ld⟩ := cells3 HB3.out
      have HA := Lib.hid (fun A (hA : (if qc = 1 then (some ⟨pb, po, none⟩ : Option Addr) else Option.map (fun (x : Addr) => x.add 3) (some ⟨pb, po, none⟩)) = A) => rg_next HQ.out hqc hA)
      have hpn : ds1.length + 1 ≤ qc := by simpa using hqc
      have hnp : (x :: ds1).length = ds1.length + 1 := by simp
      have HFX : Fr0 W2 (((W3.setCell ⟨C, 0, none⟩ (.int .i64 x.at_)).setCell ⟨C, 1, none⟩ (.int .i64 x.n)).setCell ⟨C, 2, none⟩ (.int .i64 x.text)).drew := (Fr0.setCell (Fr0.setCell (Fr0.setCell HF3.out _ _ (by show _ ≤ C; have := HC.out; omega)) _ _ (by show _ ≤ C; have := HC.out; omega)) _ _ (by show _ ≤ C; have := HC.out; omega)).drew
      have HBX : (((W3.setCell ⟨C, 0, none⟩ (.int .i64 x.at_)).setCell ⟨C, 1, none⟩ (.int .i64 x.n)).setCell ⟨C, 2, none⟩ (.int .i64 x.text)).drew.heap[C]? = some (.cells #[.int .i64 x.at_, .int .i64 x.n, .int .i64 x.text] 55 (0, 0)) := put3dr HB3.out _ _ _
      have HFX2 := Lib.hid HFX
      have HBX2 := Lib.hid HBX
      clear HL1 HL0 hcp HFX HBX HF3 HB3 HS3 HC lpb
      go_wp2_with fail
      go_region
      go_wp2_with fail
      all_goals go_meet
      all_goals (have HFX := HFX2.out; have HBX := HBX2.out)
      · exact ⟨_, _, _, _, rfl, rfl, by omega, by omega, HP.out, HA.out _ (if_pos h), HFX, HBX⟩
      · exact ⟨_, _, _, _, rfl, rfl, by omega, by omega, HP.out, HA.out _ (if_neg h), HFX, HBX⟩
    case rest =>
    obtain ⟨pa1, pc1, qa1, qc1, rfl, rfl, hpc1, hqc1, hp1, hq1, hf4, hb4⟩ := hcut
    rename World => W4
    have hx : (0 ≤ x.at_ ∧ 0 ≤ x.n ∧ x.at_ + x.n ≤ 1152921504606846976) ∧ gk = cs1.length + ds1.length + 1 ∧ Hid (∀ c ∈ cs1, 0 ≤ c.at_ ∧ 0 ≤ c.n ∧ c.at_ + c.n ≤ 1152921504606846976) ∧ Hid (∀ c ∈ ds1, 0 ≤ c.at_ ∧ 0 ≤ c.n ∧ c.at_ + c.n ≤ 1152921504606846976) := by
     cases lf with
     | true =>
      obtain ⟨e1, e2⟩ := HL1.out rfl
      subst e1 e2
      exact ⟨HNP.out x (by simp), by rw [hgk]; simp only [List.length_cons]; omega, fun c hc => HNP.out c (by simp [hc]), HNQ.out⟩
     | false =>
      obtain ⟨e1, e2⟩ := HL0.out rfl
      subst e1 e2
      exact ⟨HNQ.out x (by simp), by rw [hgk]; simp only [List.length_cons]; omega, HNP.out, fun c hc => HNQ.out c (by simp [hc])⟩
    obtain ⟨⟨hx0, hx1, hx2⟩, hgk2, HN1, HN2⟩ := hx
    have HR1 : Hid ((mrgS Chg.at_ cs1 ds1).foldl (stepG Chg.at_ Chg.n) (stepG Chg.at_ Chg.n (zs.map Gm.g) (x, lf)) = R) := by
     have := HRES.out
     rw [HM.out, List.foldl_cons] at this
     exact this
    have HDV4 := Lib.hid (HDV.out.kept (S := fun _ => False) (HF2.out.trans hf4) (fun _ h => h.elim))
    have hCw : wr.heap.size ≤ C := by have := HC.out; omega
    have HCH : Hid (∀ z ∈ zs, z.hi ≤ C) := fun z hz => Nat.le_trans (HDV.out.all z hz).2.2 hCw
    have HP1 := Lib.hid hp1
    have HQ1 := Lib.hid hq1
    have HB4 := Lib.hid hb4
    clear HDV HFD HNP HNQ HRES HM HL1 HL0 HF2 HW2 HF3 HB3 HS3 HC hsW hp1 hq1 hf4 hb4 hpc hqc hlen1 hlen2 hne HP HQ hgk
    obtain ⟨xa, xn, xt⟩ := x
    dsimp only at *
    have z1 := IntWalk.i64_in (xa + xn) (by omega)
    obtain ⟨ga, gc, rfl⟩ := owns_form HDV4.out.row
    obtain ⟨nw, hnw⟩ : ∃ nw : Bool, nw = match zs.getLast? with | none => true | some z => decide (z.g.end_ < xa) := ⟨_, rfl⟩
    have HNW := Lib.hid hnw
    clear hnw
    go_upto_region 8 with fail
    go_cut [63] (fun u wx => u = .bool nw ∧ Fr0 W4 wx)
    case first =>
     clear HP1 HQ1 HN1 HN2 HR1
     obtain ⟨k0, k1, k2, kf, lk⟩ := cells3 HB4.out
     rcases list_end zs with rfl | ⟨zs0, z, rfl⟩
     · have : nw = true := HNW.out
       subst this
       clear HDV4 HCH HLEN HNW HB4
       go_quiet (fail)
       go_wp2_with fail
       go_meet
       exact ⟨rfl, (Fr0.refl _).drewN _⟩
     · have hnw : nw = decide (z.g.end_ < xa) := by have := HNW.out; rw [List.getLast?_concat] at this; exact this
       obtain ⟨g, gc2, hg, hbg, lg, gf, gcell, hg1, hg2⟩ := own_end HDV4.out.row (by rw [flat_len gpz 1 zs0 (fun _ _ => rfl)])
       simp only [Value.slice.injEq] at hg
       obtain ⟨rfl, e1, rfl⟩ := hg
       have g0 := gcell 0 _ rfl
       rw [Nat.mul_one, Nat.add_zero] at g0
       obtain ⟨_, _, _, m3, _, _, _, lm, mf⟩ := cells7 (HDV4.out.all z (by simp)).1.box
       have hz0 : zs0.length ≤ 100000 := by simp at hzl; omega
       have e2 : (zs0 ++ [z]).length = zs0.length + 1 := by simp
       have q1 : (((zs0.length : Int) + 1) == 0) = false := beq_eq_false_iff_ne.2 (by omega)
       clear HDV4 HCH HLEN HNW HB4 gcell
       generalize z.g.end_ = ze at *
       generalize z.gb = zb at *
       by_cases hd : ze < xa
       · have h6 : decide (ze < xa) = true := decide_eq_true hd
         obtain rfl := hnw.trans h6
         clear hd hnw
         go_quiet (fail)
         go_wp2_with fail
         go_meet
         exact ⟨rfl, (Fr0.refl _).drewN _⟩
       · have h6 : decide (ze < xa) = false := decide_eq_false hd
         obtain rfl := hnw.trans h6
         clear hd hnw
         go_quiet (fail)
         go_wp2_with fail
         go_meet
         exact ⟨rfl, (Fr0.refl _).drewN _⟩
    case rest =>
    obtain ⟨rfl, hF5⟩ := hcut
    rename World => W5
    have HDV5 := Lib.hid (HDV4.out.kept (S := fun _ => False) hF5 (fun _ h => h.elim))
    have HB5 := Lib.hid (hF5.kept HB4.out)
    clear HDV4 HB4 hF5
    go_upto_if 63 with fail
    go_cut [5] (fun u5 wx => ∃ zs0 z, Dv w wx u5 (zs0 ++ [z]) ∧ (zs0 ++ [z]).map Gm.g = (if nw = true then zs.map Gm.g ++ [⟨xa, xa + xn, [], []⟩] else zs.map Gm.g) ∧ wx.heap[C]? = some (.cells #[.int .i64 xa, .int .i64 xn, .int .i64 xt] 55 (0, 0)) ∧ (∀ k, z.lv.ownBlock = some k → k ≠ C) ∧ (∀ k, z.rv.ownBlock = some k → k ≠ C) ∧ (z.g.left.length + z.g.right.length ≤ 100000 - gk) ∧ zs0.length ≤ 100000 - gk ∧ (∀ y ∈ zs0, y.g.left.length + y.g.right.length + gk ≤ 100000))
    case first =>
     clear HP1 HQ1 HN1 HN2 HR1
     cases nw with
     | true =>
      obtain ⟨k0, k1, k2, kf, lk⟩ := cells3 HB5.out
      have hrow := (((Fr0.refl W5).alloc (.cells #[.slice none 0 0, .slice none 0 0, .int .i64 xa, .int .i64 (xa + xn), .int .i64 0, .int .i64 0, .bool false] 73 (0, 0))).owns HDV5.out.row)
      have hbs : w.heap.size ≤ (W5.alloc (.cells #[.slice none 0 0, .slice none 0 0, .int .i64 xa, .int .i64 (xa + xn), .int .i64 0, .int .i64 0, .bool false] 73 (0, 0))).heap.size := by have := HDV5.out.fr.size; simp; omega
      have hzl2 : zs.length ≤ 1000000 := by omega
      go_wp2_with (at_builtin; refine wpList_pushG (vals := gpz) rt_pgrp rfl _ _ rfl w.heap.size _ zs rfl hrow hbs 71 ⟨0, 0, W5.heap.size, .slice none 0 0, .slice none 0 0, ⟨0, 0, [], []⟩⟩ #[.pointer (some ⟨W5.heap.size, 0, none⟩)] rfl rfl (by simp [gpz, Value.oneCell']) 1 (W5.heap.size + 1) (by simp) rfl (by omega) hzl2 ?_; intro v6 w6 hO6 hg6 hat6)
      go_meet
      have hnc : ∀ k, (Value.slice ga zs.length gc).ownBlock = some k → k < W5.heap.size ∧ ∃ cur, W5.heap[k]? = some (.cells cur 71 (0, 0)) := fun k hk => ⟨(HDV5.out.row.lt k hk).2, owns_block HDV5.out.row hk⟩
      have hf6 : Fr (fun k => (Value.slice ga zs.length gc).ownBlock = some k) W5 w6 := Fr.grown (((Fr.refl _ W5).alloc _).alloc _) hg6 (fun k hk _ => hk)
      have hb6 : w6.heap[W5.heap.size]? = some (.cells #[.slice none 0 0, .slice none 0 0, .int .i64 xa, .int .i64 (xa + xn), .int .i64 0, .int .i64 0, .bool false] 73 (0, 0)) :=
       (hg6.block _ (by simp; omega) (fun e => by have := (hnc _ e.symm).1; omega)).trans (alloc2_0 W5 _ _)
      refine ⟨zs, ⟨W5.heap.size, w6.heap.size, W5.heap.size, .slice none 0 0, .slice none 0 0, ⟨xa, xa + xn, [], []⟩⟩, HDV5.out.new hb6 hf6 (by simpa [gpz] using hO6), by simp, hf6.kept HB5.out (fun e => ?_), (fun k hk => by cases hk), (fun k hk => by cases hk), by simp, by omega, HLEN.out⟩
      obtain ⟨_, cur, hc⟩ := hnc _ e
      rw [HB5.out] at hc
      cases hc
     | false =>
      go_wp2_with fail
      go_meet
      have hnw := HNW.out
      rcases list_end zs with e | ⟨zs0, z, e⟩
      · rw [e] at hnw; cases hnw
      · subst e
        have hz := HCH.out z (by simp)
        have hd := (HDV5.out.all z (by simp)).1
        have hl := HLEN.out z (by simp)
        refine ⟨zs0, z, HDV5.out, rfl, HB5.out, fun k hk => ?_, fun k hk => ?_, by omega, by simp at hzl; omega, fun y hy => HLEN.out y (by simp [hy])⟩
        · have := hd.lh k hk; omega
        · have := hd.rh k hk; omega
    case rest =>
    obtain ⟨zs0, z, hdv, hmap, hb, hl, hr, hzn, hz0, hys⟩ := hcut
    rename World => W6
    have hst : stepG Chg.at_ Chg.n (zs.map Gm.g) (⟨xa, xn, xt⟩, lf) = zs0.map Gm.g ++ [z.g.ext Chg.at_ Chg.n (⟨xa, xn, xt⟩, lf)] := by
     refine stepG_by (nw := nw) ?_ (by rw [← hmap]; simp)
     have := HNW.out
     rw [List.getLast?_map]
     cases hgl : zs.getLast? with
     | none => rw [hgl] at this; exact this
     | some y => rw [hgl] at this; exact this
    have HR2 : Hid ((mrgS Chg.at_ cs1 ds1).foldl (stepG Chg.at_ Chg.n) (zs0.map Gm.g ++ [z.g.ext Chg.at_ Chg.n (⟨xa, xn, xt⟩, lf)]) = R) := by
     show _ = _
     rw [← hst]
     exact HR1.out
    clear hst hmap HR1 HNW HDV5 HB5 HCH HLEN
    have hd := (hdv.all z (by simp)).1
    have hdl := (hdv.all z (by simp)).2.1
    have hdh := (hdv.all z (by simp)).2.2
    obtain ⟨g, gc2, rfl, hbg, lg, gf, gcell, hg1, hg2⟩ := own_end hdv.row (by rw [flat_len gpz 1 zs0 (fun _ _ => rfl)])
    have g0 := gcell 0 _ rfl
    rw [Nat.mul_one, Nat.add_zero] at g0
    have HDV6 := Lib.hid hdv
    obtain ⟨lo, hi, gb, lv, rv, ⟨pa0, pe, gl, gr⟩⟩ := z
    dsimp only at *
    have HD := Lib.hid hd
    obtain ⟨m0, m1, m2, m3, m4, m5, m6, lm, mf⟩ := cells7 hd.box
    obtain ⟨k0, k1, k2, kf, lk⟩ := cells3 hb
    have HB := Lib.hid hb
    have hcg : gb ≠ C := fun e => by
     have := hd.box
     rw [e, hb] at this
     cases this
    have q1 : IntKind.i64.wrap ((zs0.length : Int) + 1 - 1) = (zs0.length : Int) := by rw [show (zs0.length : Int) + 1 - 1 = (zs0.length : Int) by omega]; exact wrapI (by omega) (by omega)
    have q2 : (zs0.length : Int) < (zs0.length : Int) + 1 := by omega
    have e2 : (zs0 ++ [(⟨lo, hi, gb, lv, rv, ⟨pa0, pe, gl, gr⟩⟩ : Gm)]).length = zs0.length + 1 := by simp
    clear gcell hd hb hdv
    go_upto_region 11 with fail
    go_cut [8] (fun u8 wx => u8 = .pointer (some ⟨gb, 0, none⟩) ∧ Fr (fun k => k = gb) W6 wx ∧ wx.heap[gb]? = some (.cells #[lv, rv, .int .i64 pa0, .int .i64 (max pe (xa + xn)), .int .i64 0, .int .i64 0, .bool false] 73 (0, 0)))
    case first =>
     by_cases hmx : xa + xn ≤ pe
     · have HX : Hid (W6.drew.setCell ⟨gb, 3, none⟩ (.int .i64 pe) = W6.drew.setCell ⟨gb, 3, none⟩ (.int .i64 pe)) := rfl
       clear HP1 HQ1 HN1 HN2 HR2
       go_region
       go_wp2_with fail
       go_meet
       rw [Int.max_eq_left hmx]
       exact ⟨rfl, Fr.drew (Fr.setCell (Fr.refl _ W6) _ _ (fun _ => rfl)), setCell_block HD.out.box 3 _⟩
     · have hmx2 : pe ≤ xa + xn := by omega
       clear HP1 HQ1 HN1 HN2 HR2
       go_region
       go_wp2_with fail
       go_meet
       rw [Int.max_eq_right hmx2]
       exact ⟨rfl, Fr.drew (Fr.setCell (Fr.refl _ W6) _ _ (fun _ => rfl)), setCell_block HD.out.box 3 _⟩
    case rest =>
    obtain ⟨rfl, hF7, hb7⟩ := hcut
    rename World => W7
    have hlo : lo ≤ gb := HD.out.lo
    have hhi : gb < hi := HD.out.hi
    have hh7 : hi ≤ W7.heap.size := Nat.le_trans hdh hF7.size
    have hne : ∀ k, (Value.slice (some ⟨g, 0, none⟩) (zs0.length + 1) gc2).ownBlock = some k → ¬ k = gb := fun k hk e => by
     obtain ⟨cur, hc⟩ := owns_block HDV6.out.row hk
     rw [e, HD.out.box] at hc
     cases hc
    have hd7 : GmD W7 ⟨lo, hi, gb, lv, rv, ⟨pa0, max pe (xa + xn), gl, gr⟩⟩ :=
     ⟨hb7, hlo, hhi, hF7.owns HD.out.lr (fun k hk e => by
      obtain ⟨cur, hc⟩ := owns_block HD.out.lr hk
      rw [e, HD.out.box] at hc
      cases hc), hF7.owns HD.out.rr (fun k hk e => by
      obtain ⟨cur, hc⟩ := owns_block HD.out.rr hk
      rw [e, HD.out.box] at hc
      cases hc), HD.out.lh, HD.out.rh, HD.out.ap⟩
    have HDV7 := Lib.hid (HDV6.out.last (z' := ⟨lo, hi, gb, lv, rv, ⟨pa0, max pe (xa + xn), gl, gr⟩⟩) hF7 (fun k e => by rw [e]; exact hlo) hne hd7 rfl rfl (Nat.le_trans hdh hF7.size))
    have HB7 := Lib.hid (hF7.kept HB.out (fun e => hcg e.symm))
    have HD7 := Lib.hid hd7
    clear m0 m1 m2 m3 m4 m5 m6 lm mf k0 k1 k2 kf lk
    obtain ⟨m0, m1, m2, m3, m4, m5, m6, lm, mf⟩ := cells7 hb7
    obtain ⟨k0, k1, k2, kf, lk⟩ := cells3 HB7.out
    clear hF7 hb7 hd7 HDV6 HD HB
    cases lf with
    | true =>
     obtain ⟨la, lc, hlv⟩ := owns_form HD7.out.lr
     dsimp only at hlv
     subst hlv
     have hlb : lo ≤ W7.heap.size := by omega
     have hll : gl.length ≤ 1000000 := by omega
     have hfar1 : some gb ≠ (Value.slice la gl.length lc).ownBlock := fun e => by
      obtain ⟨cur, hc⟩ := owns_block HD7.out.lr e.symm
      rw [HD7.out.box] at hc
      cases hc
     have hfar2 : some C ≠ (Value.slice la gl.length lc).ownBlock := fun e => hl C e.symm rfl
     have fr0 := mf 0
     have hrow7 := HD7.out.lr
     have hlm : gb < W7.heap.size := lm
     have hlk : C < W7.heap.size := lk
     clear mf kf
     go_upto_region 13 with fail
     go_region_law ((refine step_pushN (vals := Chg.vals) rt_chg (by rfl) _ _ (by rfl) lo _ gl [⟨xa, xn, xt⟩] (by rfl) hrow7 hlb 55 #[.int .i64 xa, .int .i64 xn, .int .i64 xt] (by rfl) (by rfl) (by simp [Chg.vals, Value.oneCell']) 1 W7.heap.size 1 (by rfl) (by omega) (by rfl) (by rfl) (by omega) (by omega) (by simp) ?_; intro g2 gcap w8 hO8 hg8 hat8; have l8 : gb < w8.heap.size := (by have := hg8.size; simp at this; omega); have n80 : w8.cell? ⟨gb, 0, none⟩ = some (.slice la gl.length lc) := (hg8.cell_far _ (by simp; omega) hfar1).trans (((((Fr0.refl W7).alloc _).drew).cell gb 0 hlm).trans m0); have m80 : w8.frozen? ⟨gb, 0, none⟩ = false := (hg8.frozen_far _ (by simp; omega) hfar1).trans (((((Fr0.refl W7).alloc _).drew).frozen gb 0 hlm).trans fr0)))
     all_goals
      have hF8 : Fr (fun k => (Value.slice la gl.length lc).ownBlock = some k) W7 w8 := Fr.grown ((Fr.refl _ W7).alloc _).drew hg8 (fun k hk _ => hk)
      have hb8 := hF8.kept HD7.out.box (fun e => hfar1 e.symm)
      have hnb8 : (Value.slice (some ⟨g2, 0, none⟩) (gl.length + 1) gcap).ownBlock ≠ some gb := fun e => by
       obtain ⟨cur, hc⟩ := owns_block hO8 e
       dsimp only at hb8
       rw [hb8] at hc
       cases hc
      have hFs : Fr (fun k => k = gb) w8 (w8.setCell ⟨gb, 0, none⟩ (.slice (some ⟨g2, 0, none⟩) (gl.length + 1) gcap)) := Fr.setCell (Fr.refl _ w8) _ _ (fun _ => rfl)
      have hbs := setCell_block hb8 0 (.slice (some ⟨g2, 0, none⟩) (gl.length + 1) gcap)
      have hz8 := hF8.size
      have HX : Hid (Dv w (w8.setCell ⟨gb, 0, none⟩ (.slice (some ⟨g2, 0, none⟩) (gl.length + 1) gcap)) (.slice (some ⟨g, 0, none⟩) (zs0.length + 1) gc2) (zs0 ++ [⟨lo, (w8.setCell ⟨gb, 0, none⟩ (.slice (some ⟨g2, 0, none⟩) (gl.length + 1) gcap)).heap.size, gb, .slice (some ⟨g2, 0, none⟩) (gl.length + 1) gcap, rv, ⟨pa0, max pe (xa + xn), gl ++ [⟨xa, xn, xt⟩], gr⟩⟩])) := by
       refine HDV7.out.last (S := fun k => (Value.slice la gl.length lc).ownBlock = some k ∨ k = gb) (Fr.trans (hF8.mono (fun k h1 _ => Or.inl h1)) hFs (fun k h1 _ => .inr h1)) (fun k hk => ?_) (fun k hk e => ?_) ⟨hbs, hlo, ?_, hFs.owns (by simpa using hO8) (fun k hk e => hnb8 (by rw [← e]; exact hk)), hFs.owns (hF8.owns HD7.out.rr (fun k hk e => HD7.out.ap k e hk)) (fun k hk e => by obtain ⟨cur, hc⟩ := owns_block HD7.out.rr hk; rw [e, HD7.out.box] at hc; cases hc), (fun k hk => by
        have h9 : g2 = k := Option.some.inj hk
        have := (hO8.lt k (by rw [← h9]; rfl)).2
        show k < (w8.setCell _ _).heap.size
        simp only [World.setCell, Array.size_modify]
        omega), (fun k hk => by
        have e5 : k < hi := HD7.out.rh k hk
        show k < (w8.setCell _ _).heap.size
        simp only [World.setCell, Array.size_modify]
        omega), (fun k hk e => by
        rcases hat8 with h8 | h8
        · exact HD7.out.ap k (h8.trans hk) e
        · have h9 : g2 = k := Option.some.inj hk
          have := HD7.out.rh k e
          have e5 : k < hi := this
          omega)⟩ rfl rfl (Nat.le_refl _)
       · rcases hk with hk | hk
         · exact (hrow7.lt k hk).1
         · rw [hk]; exact hlo
       · rcases e with e | e
         · obtain ⟨cur, hc⟩ := owns_block HDV7.out.row hk
           obtain ⟨cur2, hc2⟩ := owns_block hrow7 e
           rw [hc] at hc2
           cases hc2
         · exact hne k hk e
       · show gb < (w8.setCell _ _).heap.size
         simp only [World.setCell, Array.size_modify]
         omega
      have HRX : Hid ((mrgS Chg.at_ cs1 ds1).foldl (stepG Chg.at_ Chg.n) ((zs0 ++ [(⟨lo, (w8.setCell ⟨gb, 0, none⟩ (.slice (some ⟨g2, 0, none⟩) (gl.length + 1) gcap)).heap.size, gb, .slice (some ⟨g2, 0, none⟩) (gl.length + 1) gcap, rv, ⟨pa0, max pe (xa + xn), gl ++ [⟨xa, xn, xt⟩], gr⟩⟩ : Gm)]).map Gm.g) = R) := by
       have := HR2.out
       show _ = _
       rw [List.map_append]
       exact this
      clear m0 m1 m2 m3 m4 m5 m6 lm k0 k1 k2 lk fr0 n80 hO8 hg8 hat8 hF8 hFs hbs hb8 hnb8 HR2 HDV7 HD7 HB7
      go_wp2_with fail
      go_roundg (gk - 1)
      case measure => omega
      case rel => exact ⟨pa1, pc1, cs1, qa1, qc1, ds1, _, rfl, rfl, hpc1, hqc1, by omega, HP1.out, HQ1.out, HX.out, HN1.out, HN2.out, HRX.out, fun y hy => by
       rcases List.mem_append.1 hy with hy | hy
       · have := hys y hy; omega
       · rw [List.mem_singleton.1 hy]
         simp only [List.length_append, List.length_singleton]
         omega, by simp; omega⟩
    | false =>
     obtain ⟨la, lc, hlv⟩ := owns_form HD7.out.rr
     dsimp only at hlv
     subst hlv
     have hlb : lo ≤ W7.heap.size := by omega
     have hll : gr.length ≤ 1000000 := by omega
     have hfar1 : some gb ≠ (Value.slice la gr.length lc).ownBlock := fun e => by
      obtain ⟨cur, hc⟩ := owns_block HD7.out.rr e.symm
      rw [HD7.out.box] at hc
      cases hc
     have hfar2 : some C ≠ (Value.slice la gr.length lc).ownBlock := fun e => hr C e.symm rfl
     have fr0 := mf 1
     have hrow7 := HD7.out.rr
     have hlm : gb < W7.heap.size := lm
     have hlk : C < W7.heap.size := lk
     clear mf kf
     go_upto_region 14 with fail
     go_region_law ((refine step_pushN (vals := Chg.vals) rt_chg (by rfl) _ _ (by rfl) lo _ gr [⟨xa, xn, xt⟩] (by rfl) hrow7 hlb 55 #[.int .i64 xa, .int .i64 xn, .int .i64 xt] (by rfl) (by rfl) (by simp [Chg.vals, Value.oneCell']) 1 W7.heap.size 1 (by rfl) (by omega) (by rfl) (by rfl) (by omega) (by omega) (by simp) ?_; intro g2 gcap w8 hO8 hg8 hat8; have l8 : gb < w8.heap.size := (by have := hg8.size; simp at this; omega); have n80 : w8.cell? ⟨gb, 1, none⟩ = some (.slice la gr.length lc) := (hg8.cell_far _ (by simp; omega) hfar1).trans (((((Fr0.refl W7).alloc _).drew).cell gb 1 hlm).trans m1); have m80 : w8.frozen? ⟨gb, 1, none⟩ = false := (hg8.frozen_far _ (by simp; omega) hfar1).trans (((((Fr0.refl W7).alloc _).drew).frozen gb 1 hlm).trans fr0)))
     all_goals
      have hF8 : Fr (fun k => (Value.slice la gr.length lc).ownBlock = some k) W7 w8 := Fr.grown ((Fr.refl _ W7).alloc _).drew hg8 (fun k hk _ => hk)
      have hb8 := hF8.kept HD7.out.box (fun e => hfar1 e.symm)
      have hnb8 : (Value.slice (some ⟨g2, 0, none⟩) (gr.length + 1) gcap).ownBlock ≠ some gb := fun e => by
       obtain ⟨cur, hc⟩ := owns_block hO8 e
       dsimp only at hb8
       rw [hb8] at hc
       cases hc
      have hFs : Fr (fun k => k = gb) w8 (w8.setCell ⟨gb, 1, none⟩ (.slice (some ⟨g2, 0, none⟩) (gr.length + 1) gcap)) := Fr.setCell (Fr.refl _ w8) _ _ (fun _ => rfl)
      have hbs := setCell_block hb8 1 (.slice (some ⟨g2, 0, none⟩) (gr.length + 1) gcap)
      have hz8 := hF8.size
      have HX : Hid (Dv w (w8.setCell ⟨gb, 1, none⟩ (.slice (some ⟨g2, 0, none⟩) (gr.length + 1) gcap)) (.slice (some ⟨g, 0, none⟩) (zs0.length + 1) gc2) (zs0 ++ [⟨lo, (w8.setCell ⟨gb, 1, none⟩ (.slice (some ⟨g2, 0, none⟩) (gr.length + 1) gcap)).heap.size, gb, lv, .slice (some ⟨g2, 0, none⟩) (gr.length + 1) gcap, ⟨pa0, max pe (xa + xn), gl, gr ++ [⟨xa, xn, xt⟩]⟩⟩])) := by
       refine HDV7.out.last (S := fun k => (Value.slice la gr.length lc).ownBlock = some k ∨ k = gb) (Fr.trans (hF8.mono (fun k h1 _ => Or.inl h1)) hFs (fun k h1 _ => .inr h1)) (fun k hk => ?_) (fun k hk e => ?_) ⟨hbs, hlo, ?_, hFs.owns (hF8.owns HD7.out.lr (fun k hk e => HD7.out.ap k hk e)) (fun k hk e => by obtain ⟨cur, hc⟩ := owns_block HD7.out.lr hk; rw [e, HD7.out.box] at hc; cases hc), hFs.owns (by simpa using hO8) (fun k hk e => hnb8 (by rw [← e]; exact hk)), (fun k hk => by
        have e5 : k < hi := HD7.out.lh k hk
        show k < (w8.setCell _ _).heap.size
        simp only [World.setCell, Array.size_modify]
        omega), (fun k hk => by
        have h9 : g2 = k := Option.some.inj hk
        have := (hO8.lt k (by rw [← h9]; rfl)).2
        show k < (w8.setCell _ _).heap.size
        simp only [World.setCell, Array.size_modify]
        omega), (fun k hk e => by
        rcases hat8 with h8 | h8
        · exact HD7.out.ap k hk (h8.trans e)
        · have h9 : g2 = k := Option.some.inj e
          have := HD7.out.lh k hk
          have e5 : k < hi := this
          omega)⟩ rfl rfl (Nat.le_refl _)
       · rcases hk with hk | hk
         · exact (hrow7.lt k hk).1
         · rw [hk]; exact hlo
       · rcases e with e | e
         · obtain ⟨cur, hc⟩ := owns_block HDV7.out.row hk
           obtain ⟨cur2, hc2⟩ := owns_block hrow7 e
           rw [hc] at hc2
           cases hc2
         · exact hne k hk e
       · show gb < (w8.setCell _ _).heap.size
         simp only [World.setCell, Array.size_modify]
         omega
      have HRX : Hid ((mrgS Chg.at_ cs1 ds1).foldl (stepG Chg.at_ Chg.n) ((zs0 ++ [(⟨lo, (w8.setCell ⟨gb, 1, none⟩ (.slice (some ⟨g2, 0, none⟩) (gr.length + 1) gcap)).heap.size, gb, lv, .slice (some ⟨g2, 0, none⟩) (gr.length + 1) gcap, ⟨pa0, max pe (xa + xn), gl, gr ++ [⟨xa, xn, xt⟩]⟩⟩ : Gm)]).map Gm.g) = R) := by
       have := HR2.out
       show _ = _
       rw [List.map_append]
       exact this
      clear m0 m1 m2 m3 m4 m5 m6 lm k0 k1 k2 lk fr0 n80 hO8 hg8 hat8 hF8 hFs hbs hb8 hnb8 HR2 HDV7 HD7 HB7
      go_wp2_with fail
      go_roundg (gk - 1)
      case measure => omega
      case rel => exact ⟨pa1, pc1, cs1, qa1, qc1, ds1, _, rfl, rfl, hpc1, hqc1, by omega, HP1.out, HQ1.out, HX.out, HN1.out, HN2.out, HRX.out, fun y hy => by
       rcases List.mem_append.1 hy with hy | hy
       · have := hys y hy; omega
       · rw [List.mem_singleton.1 hy]
         simp only [List.length_append, List.length_singleton]
         omega, by simp; omega⟩
end Go.Proofs.YtgldjpldldknoaaGreatDoor

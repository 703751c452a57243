/- Two readers in memory; the walk of common. -/
import Derived.Test.YtodmpcnpedpheaaGreatDoorRPx3
import Derived.BigRegion
set_option linter.unusedSimpArgs false
set_option linter.unusedVariables false
namespace Go.Proofs.YtodmpcnpedpheaaGreatDoor
open Go.RowKit

/-- Two readers, what they have changed, and the parser. -/
structure Two (S : Nat → Prop) (B base : Nat) (w W : World) (pp tp p mb : Nat) (most : Int) (L : List Ent) (bx bz : Nat) (back : Bool) (tx ty : List (Int × Int)) (vx vy : Value) : Prop where
  ex : ∃ T, Pq B W pp tp p mb most L T
  rx : Rd base W bx pp back tx vx
  ry : Rd base W bz pp back ty vy
  ne : bx ≠ bz
  dj : ∀ k, vx.ownBlock = some k → ¬ vy.ownBlock = some k
  fr : Ks S B mb w W
  x0 : w.heap.size ≤ bx
  y0 : w.heap.size ≤ bz
  sx : ∀ k, vx.ownBlock = some k → S k ∨ w.heap.size ≤ k
  sy : ∀ k, vy.ownBlock = some k → S k ∨ w.heap.size ≤ k

theorem Two.swap {S : Nat → Prop} {B base : Nat} {w W : World} {pp tp p mb : Nat} {most : Int} {L : List Ent} {bx bz : Nat} {back : Bool} {tx ty : List (Int × Int)} {vx vy : Value} (h : Two S B base w W pp tp p mb most L bx bz back tx ty vx vy) : Two S B base w W pp tp p mb most L bz bx back ty tx vy vx :=
  ⟨h.ex, h.ry, h.rx, fun e => h.ne e.symm, fun k h1 h2 => h.dj k h2 h1, h.fr, h.y0, h.x0, h.sy, h.sx⟩

theorem Two.stepX {S : Nat → Prop} {B base : Nat} {w W W' : World} {pp tp p mb : Nat} {most : Int} {L : List Ent} {bx bz : Nat} {back : Bool} {tx ty tx' : List (Int × Int)} {vx vy vx' : Value} (h : Two S B base w W pp tp p mb most L bx bz back tx ty vx vy) (hB : B ≤ base) (hBw : B ≤ w.heap.size) (g : Rd base W' bx pp back tx' vx') (f : Fr (rdS bx vx) W W') (o : ∀ k, vx'.ownBlock = some k → vx.ownBlock = some k ∨ W.heap.size ≤ k) :
    Two S B base w W' pp tp p mb most L bx bz back tx' ty vx' vy := by
  have h0 := h.x0
  have hs := h.fr.size
  obtain ⟨T, hP⟩ := h.ex
  refine ⟨⟨T, hP.keptO (Rd.ko h.rx hB (by omega) f)⟩, g, h.ry.keep f (fun e => ?_) (fun k hk e => ?_), h.ne, fun k h1 h2 => ?_, Ks.fr h.fr f (fun i hi e => ?_), h.x0, h.y0, fun k hk => ?_, h.sy⟩
  · rcases e with e | e
    · exact h.ne e.symm
    · obtain ⟨cur, hc⟩ := owns_block h.rx.row e
      exact ne_of_types hc h.ry.box (by decide) rfl
  · rcases e with e | e
    · exact ((h.ry.blk hk).2.2.1.elim fun cur hc => ne_of_types hc h.rx.box (by decide) e)
    · exact h.dj k e hk
  · rcases o k h1 with e | e
    · exact h.dj k e h2
    · have := (h.ry.blk h2).2.1
      omega
  · rcases e with e | e
    · omega
    · rcases h.sx i e with e2 | e2
      · exact e2
      · omega
  · rcases o k hk with e | e
    · exact h.sx k e
    · exact .inr (by omega)

theorem Two.stepY {S : Nat → Prop} {B base : Nat} {w W W' : World} {pp tp p mb : Nat} {most : Int} {L : List Ent} {bx bz : Nat} {back : Bool} {tx ty ty' : List (Int × Int)} {vx vy vy' : Value} (h : Two S B base w W pp tp p mb most L bx bz back tx ty vx vy) (hB : B ≤ base) (hBw : B ≤ w.heap.size) (g : Rd base W' bz pp back ty' vy') (f : Fr (rdS bz vy) W W') (o : ∀ k, vy'.ownBlock = some k → vy.ownBlock = some k ∨ W.heap.size ≤ k) :
    Two S B base w W' pp tp p mb most L bx bz back tx ty' vx vy' := (h.swap.stepX hB hBw g f o).swap

theorem Two.next {S : Nat → Prop} {B base : Nat} {w W W' : World} {pp tp p mb : Nat} {most : Int} {L : List Ent} {bx bz : Nat} {back : Bool} {tx ty : List (Int × Int)} {vx vy : Value} (h : Two S B base w W pp tp p mb most L bx bz back tx ty vx vy) (hp : ∃ T, Pq B W' pp tp p mb most L T) (hk : Kx B mb W W') :
    Two S B base w W' pp tp p mb most L bx bz back tx ty vx vy :=
  ⟨hp, h.rx.keptX hk, h.ry.keptX hk, h.ne, h.dj, h.fr.next hk (fun _ _ e => e.elim), h.x0, h.y0, h.sx, h.sy⟩

theorem Two.next0 {S : Nat → Prop} {B base : Nat} {w W W' : World} {pp tp p mb : Nat} {most : Int} {L : List Ent} {bx bz : Nat} {back : Bool} {tx ty : List (Int × Int)} {vx vy : Value} (h : Two S B base w W pp tp p mb most L bx bz back tx ty vx vy) (hf : Fr0 W W') :
    Two S B base w W' pp tp p mb most L bx bz back tx ty vx vy := by
  obtain ⟨T, hP⟩ := h.ex
  exact h.next ⟨T, hP.kept0 hf⟩ (Ks.of0 hf)

theorem list_end {α : Type} (l : List α) : l = [] ∨ ∃ l' x, l = l' ++ [x] := by
  rcases List.eq_nil_or_concat l with h | ⟨a, b, h⟩
  · exact .inl h
  · exact .inr ⟨a, b, by rw [h, List.concat_eq_append]⟩

theorem own_nil {base : Nat} {w : World} {T : TypeId} {v : Value} {sz : Nat} (h : w.ownsRow base T sz v 0 []) : ∃ a c, v = .slice a 0 c := owns_form h

theorem times_le {L : List Ent} (hS : SOk L) (hD : DOk L) (back : Bool) {td : List (Int × Int)} {x k t : Int} (h : GAll L (td ++ [(x, k)])) (h0 : 0 ≤ t) (hk : t ≤ k) : t * ((txt L x).length : Int) ≤ (restG L back (td ++ [(x, k)])).length := by
  have e := (rest_last hS hD back h).1
  have h1 : t.toNat * (txt L x).length ≤ k.toNat * (txt L x).length := Nat.mul_le_mul_right _ (by omega)
  have e2 : ((t.toNat * (txt L x).length : Nat) : Int) = t * ((txt L x).length : Int) := by rw [Int.natCast_mul, Int.toNat_of_nonneg h0]
  omega

/-- What common leaves. -/
def CmPost (S : Nat → Prop) (B : Nat) (w : World) (pp tp p mb : Nat) (most : Int) (L : List Ent) (C : Nat) (e : Ending) (w' : World) : Prop :=
  e = .returned (.int .i64 (C : Nat)) ∧ (∃ T', Pq B w' pp tp p mb most L T') ∧ Ks S B mb w w'

set_option maxRecDepth 100000 in
set_option maxHeartbeats 4000000 in
theorem px_common {B base : Nat} {w : World} {pp tp p mb : Nat} {most : Int} {L : List Ent} {T : List KRow} {back : Bool} {tx ty : List (Int × Int)} {vx vy : Value} (hp : Pq B w pp tp p mb most L T) (ox : w.ownsRow base 161 2 vx tx.length (tx.flatMap gvZ)) (oy : w.ownsRow base 161 2 vy ty.length (ty.flatMap gvZ)) (hdj : ∀ k, vx.ownBlock = some k → ¬ vy.ownBlock = some k) (hB : B ≤ base) (hbs : base ≤ w.heap.size) (gx : GAll L tx) (gy : GAll L ty) (hm : mesG L back tx ty ≤ 1000) (hl : (restG L back ty).length ≤ 1000) :
    Calls Tryz.prog 82 #[.agg #[.pointer (some ⟨pp, 0, none⟩), .bool back, vx], .agg #[.pointer (some ⟨pp, 0, none⟩), .bool back, vy]] w (CmPost (fun k => vx.ownBlock = some k ∨ vy.ownBlock = some k) B w pp tp p mb most L (cpl (restG L back tx) (restG L back ty))) := by
  obtain ⟨ax, cx, rfl⟩ := owns_form ox
  obtain ⟨ay, cy, rfl⟩ := owns_form oy
  have hBw := hp.base
  have HS := hp.sok
  have HD := hp.dok
  have HU := hp.uq
  obtain ⟨C, hC⟩ : ∃ C, cpl (restG L back tx) (restG L back ty) = C := ⟨_, rfl⟩
  obtain ⟨S, hSS⟩ : ∃ S : Nat → Prop, (fun k => (Value.slice ax tx.length cx).ownBlock = some k ∨ (Value.slice ay ty.length cy).ownBlock = some k) = S := ⟨_, rfl⟩
  have HC : Hid (CmI L back C tx ty 0) := ⟨gx, gy, by rw [hC]; omega⟩
  have hCb : C ≤ 1000 := by have := (cpl_le (restG L back tx) (restG L back ty)).2; omega
  rw [hC, hSS]
  have HT : Hid (∀ W X0 X1, X0 = .cells #[.pointer (some ⟨pp, 0, none⟩), .bool back, .slice ax tx.length cx] 177 (0, 0) → X1 = .cells #[.pointer (some ⟨pp, 0, none⟩), .bool back, .slice ay ty.length cy] 177 (0, 0) → W = (w.alloc X0).alloc X1 → Two S B base w W pp tp p mb most L w.heap.size (w.heap.size + 1) back tx ty (.slice ax tx.length cx) (.slice ay ty.length cy)) := by
    intro W X0 X1 e0 e1 e
    have F : Fr0 w W := by rw [e]; exact ((Fr0.refl w).alloc _).alloc _
    subst e
    refine ⟨⟨T, hp.kept0 F⟩, ⟨by rw [← e0]; exact alloc2_0 w _ _, F.owns ox⟩, ⟨by rw [← e1]; exact alloc2_1 w _ _, F.owns oy⟩, by omega, hdj, Ks.of0 F, Nat.le_refl _, by omega, fun k hk => .inl ?_, fun k hk => .inl ?_⟩
    · rw [← hSS]; exact .inl hk
    · rw [← hSS]; exact .inr hk
  clear hp ox oy hdj gx gy hC hSS
  go_enter Tryz.func82, Tryz.ntmps82
  go_wp2_with fail
  have HT1 := Lib.hid ((HT.out _ _ _ rfl rfl rfl).next0 ((Fr0.refl _).alloc (.cells #[.slice none 0 0, .slice none 0 0, .int .i64 0] 199 (0, 0))))
  clear HT
  generalize ((w.alloc (.cells #[.pointer (some ⟨pp, 0, none⟩), .bool back, .slice ax tx.length cx] 177 (0, 0))).alloc (.cells #[.pointer (some ⟨pp, 0, none⟩), .bool back, .slice ay ty.length cy] 177 (0, 0))).alloc (.cells #[.slice none 0 0, .slice none 0 0, .int .i64 0] 199 (0, 0)) = W1 at *
  go_loopg [18, 6] (mesG L back tx ty) (fun gk a b wr => ∃ (st sum : Nat) (ux uy : List (Int × Int)) (zx zy : Value), a = .int .i64 (st : Nat) ∧ b = .int .i64 (sum : Nat) ∧ gk = mesG L back ux uy ∧ st + gk ≤ 1000 ∧ (restG L back uy).length ≤ 1000 ∧ CmI L back C ux uy sum ∧ Two S B base w wr pp tp p mb most L w.heap.size (w.heap.size + 1) back ux uy zx zy)
  case atStart => exact ⟨0, 0, tx, ty, _, _, rfl, rfl, rfl, by omega, hl, HC.out, HT1.out⟩
  case round =>
    clear HC HT1
    obtain ⟨st, sum, ux, uy, zx, zy, rfl, rfl, hgk, hst, hly, hI, hT⟩ := hrel
    have HI := Lib.hid hI
    have HT := Lib.hid hT
    have hsum := hI.sum
    have hmx : (restG L back ux).length ≤ gk := by rw [hgk]; unfold mesG; omega
    have qs1 : decide ((st : Int) < 16777216) = true := decide_eq_true (by omega)
    have qs2 : decide ((1024 : Int) ≤ (st : Int)) = false := decide_eq_false (by omega)
    have qs3 : decide ((1024 : Int) < (st : Int)) = false := decide_eq_false (by omega)
    have qs4 : IntKind.i64.wrap ((st : Int) + 1) = (st : Int) + 1 := wrapI (by omega) (by omega)
    rcases list_end ux with rfl | ⟨ux', ⟨a, k⟩, rfl⟩
    · obtain ⟨za, zc, rfl⟩ := own_nil hT.rx.row
      obtain ⟨c0, c1, c2, cf, lx⟩ := cells3 hT.rx.box
      have hsC := HI.out.end_ (.inl rfl)
      clear hI hT
      go_wp2_with fail
      go_ret
      exact ⟨by rw [← hsC]; rfl, HT.out.ex, HT.out.fr⟩
    · obtain ⟨gx, gcx, rfl, _, lgx, gfx, gcellx, hgx1, hgx2⟩ := own_end hT.rx.row (gvZ_len _)
      obtain ⟨c0, c1, c2, cf, lx⟩ := cells3 hT.rx.box
      have q1 : (0 : Int) ≤ (ux'.length : Int) := by omega
      have q2 : (ux'.length : Int) < (ux'.length : Int) + 1 := by omega
      have q4 : ((ux'.length : Int) + 1 == 0) = false := beq_eq_false_iff_ne.2 (by omega)
      rcases list_end uy with rfl | ⟨uy', ⟨b, m⟩, rfl⟩
      · obtain ⟨za, zc, rfl⟩ := own_nil hT.ry.row
        obtain ⟨d0, d1, d2, df, ly⟩ := cells3 hT.ry.box
        have hsC := HI.out.end_ (.inr rfl)
        clear hI hT gcellx
        go_wp2_with fail
        go_ret
        exact ⟨by rw [← hsC]; rfl, HT.out.ex, HT.out.fr⟩
      · obtain ⟨gy, gcy, rfl, _, lgy, gfy, gcelly, hgy1, hgy2⟩ := own_end hT.ry.row (gvZ_len _)
        obtain ⟨d0, d1, d2, df, ly⟩ := cells3 hT.ry.box
        have q5 : (0 : Int) ≤ (uy'.length : Int) := by omega
        have q6 : (uy'.length : Int) < (uy'.length : Int) + 1 := by omega
        have q7 : ((uy'.length : Int) + 1 == 0) = false := beq_eq_false_iff_ne.2 (by omega)
        have lux := GAll.len HS HD back hI.gx
        have luy := GAll.len HS HD back hI.gy
        rw [List.length_append, List.length_singleton] at lux luy
        have q3 : IntKind.i64.wrap ((ux'.length : Int) + 1 - 1) = (ux'.length : Int) := by rw [show (ux'.length : Int) + 1 - 1 = (ux'.length : Int) by omega]; exact wrapI (by omega) (by omega)
        have q8 : IntKind.i64.wrap ((uy'.length : Int) + 1 - 1) = (uy'.length : Int) := by rw [show (uy'.length : Int) + 1 - 1 = (uy'.length : Int) by omega]; exact wrapI (by omega) (by omega)
        have x0 := gcellx 0 _ rfl
        have x1 := gcellx 1 _ rfl
        have y0 := gcelly 0 _ rfl
        have y1 := gcelly 1 _ rfl
        rw [Nat.add_zero] at x0 y0
        clear hI hT gcellx gcelly
        go_upto_region 11 with fail
        go_cut [9, 10] (fun v9 v10 wx => ∃ A A2, v9 = .pointer (some ⟨A, 0, none⟩) ∧ v10 = .pointer (some ⟨A2, 0, none⟩) ∧ Fr0 wr wx ∧ wx.heap[A]? = some (Obj.cells #[.int .i64 a, .int .i64 k] 161 (0, 0)) ∧ wx.heap[A2]? = some (Obj.cells #[.int .i64 b, .int .i64 m] 161 (0, 0)) ∧ wr.heap.size ≤ A ∧ wr.heap.size ≤ A2)
        case first =>
          go_region
          · go_wp2_with fail
            go_meet
            exact ⟨_, _, rfl, rfl, (((Fr0.refl wr).alloc _).alloc _).drew, alloc2_0 wr _ _, alloc2_1 wr _ _, Nat.le_refl _, Nat.le_succ _⟩
          · go_wp2_with fail
            go_meet
            exact ⟨_, _, rfl, rfl, (((Fr0.refl wr).alloc _).alloc _).drew, alloc2_1 wr _ _, alloc2_0 wr _ _, Nat.le_succ _, Nat.le_refl _⟩
        case rest =>
          obtain ⟨A, A2, rfl, rfl, hF, hA, hA2, lA, lA2⟩ := hcut
          rename World => W4
          have HT4 := Lib.hid (HT.out.next0 hF)
          have ga := HI.out.gx.last
          have gb := HI.out.gy.last
          have ha1 := ga.tm
          have hb1 := gb.tm
          have ha2 := (rest_last HS HD back HI.out.gx).2.2
          have hb2 := (rest_last HS HD back HI.out.gy).2.2
          dsimp only at ha1 hb1
          have HA := Lib.hid hA
          have HA2 := Lib.hid hA2
          clear c0 c1 c2 cf lx d0 d1 d2 df ly gfx gfy x0 x1 y0 y1 lgx lgy q1 q2 q3 q4 q5 q6 q7 q8 hF HT hgx1 hgx2 hgy1 hgy2
          obtain ⟨e0, e1, ef, le⟩ := cells2 hA
          obtain ⟨f0, f1, ff, lf⟩ := cells2 hA2
          clear hA hA2
          have hbx : base ≤ W4.heap.size := Nat.le_trans hbs HT4.out.fr.size
          by_cases hab : a = b
          · subst hab
            obtain ⟨t, ht⟩ : ∃ t, (k ≤ m ∧ k = t) ∨ (¬ k ≤ m ∧ m = t) := by
              by_cases h : k ≤ m
              · exact ⟨k, .inl ⟨h, rfl⟩⟩
              · exact ⟨m, .inr ⟨h, rfl⟩⟩
            have t1 : 1 ≤ t := by omega
            have tk : t ≤ k := by omega
            have tm : t ≤ m := by omega
            obtain ⟨hI5, hM5⟩ := HI.out.same HS HD t1 tk tm
            have HI5 := Lib.hid hI5
            have hly5 : (restG L back (drpG uy' a (m - t))).length ≤ 1000 := by
              have := congrArg List.length (restG_drop L back uy' a m t (by omega) tm)
              rw [List.length_append] at this
              omega
            have htl := times_le HS HD back HI.out.gx (t := t) (by omega) tk
            have hs5 := hI5.sum
            obtain ⟨Z, hZ⟩ : ∃ Z, (txt L a).length = Z := ⟨_, rfl⟩
            obtain ⟨T4, hP4⟩ := HT4.out.ex
            have CSZ := Lib.hid (px_size hP4 a ga.kn)
            have CDX := Lib.hid (fun W (hW : Fr0 W4 W) => rd_drop (HT4.out.next0 hW).rx (by omega) t (by omega) tk (by omega))
            have CDY := Lib.hid (fun W v' (hr : Rd base W (w.heap.size + 1) pp back (uy' ++ [(a, m)]) v') => rd_drop hr (by omega) t (by omega) tm (by omega))
            rw [hZ] at htl CSZ hs5 HI5
            have hc1 : ((sum + t.toNat * Z : Nat) : Int) = (sum : Int) + t * (Z : Int) := by
              rw [Int.natCast_add, Int.natCast_mul, Int.toNat_of_nonneg (by omega)]
            have hc0 : 0 ≤ t * (Z : Int) := Int.mul_nonneg (by omega) (by omega)
            have qm1 : IntKind.i64.wrap (t * (Z : Int)) = t * (Z : Int) := wrapI (by omega) (by omega)
            have qm2 : IntKind.i64.wrap ((sum : Int) + t * (Z : Int)) = ((sum + t.toNat * Z : Nat) : Int) := by rw [hc1]; exact wrapI (by omega) (by omega)
            generalize sum + t.toNat * Z = sum5 at *
            generalize drpG ux' a (k - t) = ux5 at *
            generalize drpG uy' a (m - t) = uy5 at *
            have HC1 := Lib.hid hc1
            have HM5 : Hid (mesG L back ux5 uy5 < gk ∧ st + 1 + mesG L back ux5 uy5 ≤ 1000 ∧ (restG L back uy5).length ≤ 1000) := ⟨by omega, by omega, hly5⟩
            clear hI5 HI hP4 hZ hc1 hc0 htl hs5 hM5 hly5 hly hsum hmx hst hgk ha1 hb1 ha2 hb2 lux luy t1 tk tm hm hl hCb ga gb lA lA2 hbx
            rcases ht with ⟨hkm, rfl⟩ | ⟨hkm, rfl⟩
            all_goals
              go_wp2_with fail
              refine CSZ.out.mono ?_
              rintro e w5 ⟨rfl, hf5⟩
              have CDX5 := Lib.hid (CDX.out _ hf5)
              have HT5 := Lib.hid (HT4.out.next0 hf5)
              clear hf5 CDX HT4 CSZ HA HA2
              go_wp2_with fail
              refine CDX5.out.mono ?_
              rintro e w6 ⟨v6, rfl, r6, f6, o6⟩
              have HT6 := Lib.hid (HT5.out.stepX hB hBw r6 f6 o6)
              have CDY6 := Lib.hid (CDY.out _ _ HT6.out.ry)
              clear r6 f6 o6 HT5 CDX5 CDY
              go_wp2_with fail
              refine CDY6.out.mono ?_
              rintro e w7 ⟨v7, rfl, r7, f7, o7⟩
              have HT7 := Lib.hid (HT6.out.stepY hB hBw r7 f7 o7)
              clear r7 f7 o7 HT6 CDY6
              go_wp2_with fail
              go_roundg (mesG L back ux5 uy5)
              case measure => exact HM5.out.1
              case rel => exact ⟨st + 1, sum5, ux5, uy5, _, _, by go_num, rfl, rfl, HM5.out.2.1, HM5.out.2.2, HI5.out, HT7.out⟩
          · have qab : (a == b) = false := beq_eq_false_iff_ne.2 hab
            have CKY := Lib.hid (fun W (hW : ∃ T', Pq B W pp tp p mb most L T') => hW.elim fun T' h => sig_Keys h)
            have CLA := Lib.hid (fun W (hW : ∃ T', Pq B W pp tp p mb most L T') => hW.elim fun T' h => keys_Level h a ga.kn ga.ne ga.lv)
            have CLB := Lib.hid (fun W (hW : ∃ T', Pq B W pp tp p mb most L T') => hW.elim fun T' h => keys_Level h b gb.kn gb.ne gb.lv)
            have HKA : Hid (∀ W, Kx B mb W4 W → W.cell? ⟨A, 0, none⟩ = some (.int .i64 a)) := fun W h2 => (cells2 (h2.cells _ _ _ _ HA.out (by decide) id)).1
            go_upto_region 17 with fail
            go_cut [12] (fun v12 wx => v12 = .int .i64 (klev L a) ∧ (∃ T', Pq B wx pp tp p mb most L T') ∧ Kx B mb W4 wx)
            case first =>
              go_region_held3 (fun w' => w'.cell? ⟨A, 0, none⟩ = some (.int .i64 a))
                (exact HKA.out _ (by first | exact Ks.refl _ _ _ _ | exact (Ks.refl _ _ _ _).drew | exact (Ks.refl _ _ _ _).drew.trans (by assumption)))
                ((first | (go_at_call 103; (with_reducible refine Calls.mono (CKY.out _ (by first | exact HT4.out.ex | exact (HT4.out.next0 (Fr0.refl W4).drew).ex)) ?_); rintro e w5 ⟨rfl, rfl⟩) | (go_at_call 78; (with_reducible refine Calls.mono (CLA.out _ (by first | exact HT4.out.ex | exact (HT4.out.next0 (Fr0.refl W4).drew).ex)) ?_); rintro e w5 ⟨T5, rfl, hp5, hx5⟩)))
              all_goals
                go_wp2_with fail
                go_meet
                exact ⟨rfl, ⟨T5, hp5⟩, Ks.trans (Ks.of0 (Fr0.refl W4).drew) hx5⟩
            case rest =>
            obtain ⟨rfl, hp5, hx5⟩ := hcut
            rename World => w5
            have HT5 := Lib.hid (HT4.out.next hp5 hx5)
            have b5 := hx5.cells _ _ _ _ HA2.out (by decide) id
            have HB5 := Lib.hid b5
            have HKB : Hid (∀ W, Kx B mb w5 W → W.cell? ⟨A2, 0, none⟩ = some (.int .i64 b)) := fun W h2 => (cells2 (h2.cells _ _ _ _ HB5.out (by decide) id)).1
            clear hp5 hx5 e0 e1 ef le f0 f1 ff lf CLA HT4 HA HA2 HKA
            obtain ⟨f0, f1, ff, lf⟩ := cells2 b5
            clear b5
            go_upto_region 18 with fail
            go_cut [14] (fun v14 wx => v14 = .int .i64 (klev L b) ∧ (∃ T', Pq B wx pp tp p mb most L T') ∧ Kx B mb w5 wx)
            case first =>
              go_region_held3 (fun w' => w'.cell? ⟨A2, 0, none⟩ = some (.int .i64 b))
                (exact HKB.out _ (by first | exact Ks.refl _ _ _ _ | exact (Ks.refl _ _ _ _).drew | exact (Ks.refl _ _ _ _).drew.trans (by assumption)))
                ((first | (go_at_call 103; (with_reducible refine Calls.mono (CKY.out _ (by first | exact HT5.out.ex | exact (HT5.out.next0 (Fr0.refl w5).drew).ex)) ?_); rintro e w6 ⟨rfl, rfl⟩) | (go_at_call 78; (with_reducible refine Calls.mono (CLB.out _ (by first | exact HT5.out.ex | exact (HT5.out.next0 (Fr0.refl w5).drew).ex)) ?_); rintro e w6 ⟨T6, rfl, hp6, hx6⟩)))
              all_goals
                go_wp2_with fail
                go_meet
                exact ⟨rfl, ⟨T6, hp6⟩, Ks.trans (Ks.of0 (Fr0.refl w5).drew) hx6⟩
            case rest =>
            obtain ⟨rfl, hp6, hx6⟩ := hcut
            rename World => w6
            have HT6 := Lib.hid (HT5.out.next hp6 hx6)
            clear hp6 hx6 CLB HT5 f0 f1 ff lf HB5 CKY HKB
            have hla := ga.lv
            have hlb := gb.lv
            have hba : base ≤ w6.heap.size := Nat.le_trans hbs HT6.out.fr.size
            have CXO := Lib.hid (fun (h1 : (entAt L a).rule.kind ≠ 1) => HT6.out.ex.elim fun T7 h => rd_open h HT6.out.rx hB (Nat.le_trans hBw HT6.out.x0) hba (by omega) ga.kn ga.ne h1 ha1 (by omega))
            have CYO := Lib.hid (fun W vx' tx' (hW : Two S B base w W pp tp p mb most L w.heap.size (w.heap.size + 1) back tx' (uy' ++ [(b, m)]) vx' (.slice (some ⟨gy, 0, none⟩) (uy'.length + 1) gcy)) (h1 : (entAt L b).rule.kind ≠ 1) => hW.ex.elim fun T7 h => rd_open h hW.ry hB (Nat.le_trans hBw hW.y0) (Nat.le_trans hbs hW.fr.size) (by omega) gb.kn gb.ne h1 hb1 (by omega))
            have ka := fun h => klev_kind (L := L) (id := a) HD ga.kn ga.ne h
            have kb := fun h => klev_kind (L := L) (id := b) HD gb.kn gb.ne h
            have HIX := Lib.hid (fun h1 => HI.out.openX HS HD HU h1)
            have HIY := Lib.hid (fun sx tx' (hI : CmI L back C tx' (uy' ++ [(b, m)]) sx) h1 => hI.openY HS HD HU h1)
            have HLT : Hid (klev L a = 0 → klev L b = 0 → sum = C) := fun h1 h2 => by
              have := cpl_letters (tx := ux') (ty := uy') HD HU back ga gb hab h1 h2
              have := HI.out.sum
              omega
            have hlyY : Hid ((entAt L b).rule.kind ≠ 1 → (restG L back (drpG uy' b (m - 1) ++ opnG L back b)).length ≤ 1000) := fun h1 => by
              rw [(open_ok (back := back) HS HD HU HI.out.gy h1).2.1]; exact hly
            have HI0 := Lib.hid HI.out
            obtain ⟨la, ela⟩ : ∃ x, klev L a = x := ⟨_, rfl⟩
            obtain ⟨lb, elb⟩ : ∃ x, klev L b = x := ⟨_, rfl⟩
            dsimp only at hla hlb
            rw [ela] at hla ka HLT
            rw [elb] at hlb kb HLT
            clear ga gb HI
            by_cases hz : la = 0
            · have z1 : (la == 0) = true := by rw [hz]; rfl
              by_cases hz2 : lb = 0
              · have z2 : (lb == 0) = true := by rw [hz2]; rfl
                have hsC := HLT.out hz hz2
                clear CXO CYO HIX HIY HLT hlyY HI0 ka kb hsum
                go_wp2_with fail
                go_ret
                exact ⟨by rw [← hsC]; rfl, HT6.out.ex, HT6.out.fr⟩
              · have z2 : (lb == 0) = false := beq_eq_false_iff_ne.2 hz2
                have z3 : decide (lb ≤ la) = false := decide_eq_false (by omega)
                have z4 : decide (la ≤ lb) = true := decide_eq_true (by omega)
                have hkb := kb (by omega)
                have C := Lib.hid (CYO.out w6 _ _ HT6.out hkb)
                obtain ⟨hI7, hM7⟩ := HIY.out sum _ HI0.out hkb
                have HI7 := Lib.hid hI7
                have HM7 : Hid (mesG L back (ux' ++ [(a, k)]) (drpG uy' b (m - 1) ++ opnG L back b) < gk ∧ st + 1 + mesG L back (ux' ++ [(a, k)]) (drpG uy' b (m - 1) ++ opnG L back b) ≤ 1000 ∧ (restG L back (drpG uy' b (m - 1) ++ opnG L back b)).length ≤ 1000) := ⟨by omega, by omega, hlyY.out hkb⟩
                clear hI7 hM7 CXO CYO HIX HIY HLT hlyY HI0 ka kb
                try clear hc
                try clear hz2
                try clear hz
                go_wp2_with fail
                refine C.out.mono ?_
                rintro e w7 ⟨v7, rfl, r7, f7, o7⟩
                have HT7 := Lib.hid (HT6.out.stepY hB hBw r7 f7 o7)
                clear r7 f7 o7 C HT6
                go_wp2_with fail
                go_roundg (mesG L back (ux' ++ [(a, k)]) (drpG uy' b (m - 1) ++ opnG L back b))
                case measure => exact HM7.out.1
                case rel => exact ⟨st + 1, sum, _, _, _, _, by go_num, rfl, rfl, HM7.out.2.1, HM7.out.2.2, HI7.out, HT7.out⟩
            · have z1 : (la == 0) = false := beq_eq_false_iff_ne.2 hz
              rcases Int.lt_trichotomy la lb with hc | hc | hc
              · have z3 : decide (lb ≤ la) = false := decide_eq_false (by omega)
                have z4 : decide (la ≤ lb) = true := decide_eq_true (by omega)
                have hkb := kb (by omega)
                have C := Lib.hid (CYO.out w6 _ _ HT6.out hkb)
                obtain ⟨hI7, hM7⟩ := HIY.out sum _ HI0.out hkb
                have HI7 := Lib.hid hI7
                have HM7 : Hid (mesG L back (ux' ++ [(a, k)]) (drpG uy' b (m - 1) ++ opnG L back b) < gk ∧ st + 1 + mesG L back (ux' ++ [(a, k)]) (drpG uy' b (m - 1) ++ opnG L back b) ≤ 1000 ∧ (restG L back (drpG uy' b (m - 1) ++ opnG L back b)).length ≤ 1000) := ⟨by omega, by omega, hlyY.out hkb⟩
                clear hI7 hM7 CXO CYO HIX HIY HLT hlyY HI0 ka kb
                try clear hc
                try clear hz2
                try clear hz
                go_wp2_with fail
                refine C.out.mono ?_
                rintro e w7 ⟨v7, rfl, r7, f7, o7⟩
                have HT7 := Lib.hid (HT6.out.stepY hB hBw r7 f7 o7)
                clear r7 f7 o7 C HT6
                go_wp2_with fail
                go_roundg (mesG L back (ux' ++ [(a, k)]) (drpG uy' b (m - 1) ++ opnG L back b))
                case measure => exact HM7.out.1
                case rel => exact ⟨st + 1, sum, _, _, _, _, by go_num, rfl, rfl, HM7.out.2.1, HM7.out.2.2, HI7.out, HT7.out⟩
              · have z3 : decide (lb ≤ la) = true := decide_eq_true (by omega)
                have z4 : decide (la ≤ lb) = true := decide_eq_true (by omega)
                have hka := ka (by omega)
                have hkb := kb (by omega)
                have C := Lib.hid (CXO.out hka)
                obtain ⟨hI7, hM7⟩ := HIX.out hka
                obtain ⟨hI8, hM8⟩ := HIY.out sum _ hI7 hkb
                have HI8 := Lib.hid hI8
                have HM8 : Hid (mesG L back (drpG ux' a (k - 1) ++ opnG L back a) (drpG uy' b (m - 1) ++ opnG L back b) < gk ∧ st + 1 + mesG L back (drpG ux' a (k - 1) ++ opnG L back a) (drpG uy' b (m - 1) ++ opnG L back b) ≤ 1000 ∧ (restG L back (drpG uy' b (m - 1) ++ opnG L back b)).length ≤ 1000) := ⟨by omega, by omega, hlyY.out hkb⟩
                clear hI7 hM7 hI8 hM8 CXO HIX HIY HLT hlyY HI0 ka kb
                try clear hc
                try clear hz2
                try clear hz
                go_wp2_with fail
                refine C.out.mono ?_
                rintro e w7 ⟨v7, rfl, r7, f7, o7⟩
                have HT7 := Lib.hid (HT6.out.stepX hB hBw r7 f7 o7)
                have C7 := Lib.hid (CYO.out w7 _ _ HT7.out hkb)
                clear r7 f7 o7 C HT6 CYO
                go_wp2_with fail
                refine C7.out.mono ?_
                rintro e w8 ⟨v8, rfl, r8, f8, o8⟩
                have HT8 := Lib.hid (HT7.out.stepY hB hBw r8 f8 o8)
                clear r8 f8 o8 C7 HT7
                go_wp2_with fail
                go_roundg (mesG L back (drpG ux' a (k - 1) ++ opnG L back a) (drpG uy' b (m - 1) ++ opnG L back b))
                case measure => exact HM8.out.1
                case rel => exact ⟨st + 1, sum, _, _, _, _, by go_num, rfl, rfl, HM8.out.2.1, HM8.out.2.2, HI8.out, HT8.out⟩
              · have z3 : decide (lb ≤ la) = true := decide_eq_true (by omega)
                have z4 : decide (la ≤ lb) = false := decide_eq_false (by omega)
                have hka := ka (by omega)
                have C := Lib.hid (CXO.out hka)
                obtain ⟨hI7, hM7⟩ := HIX.out hka
                have HI7 := Lib.hid hI7
                have HM7 : Hid (mesG L back (drpG ux' a (k - 1) ++ opnG L back a) (uy' ++ [(b, m)]) < gk ∧ st + 1 + mesG L back (drpG ux' a (k - 1) ++ opnG L back a) (uy' ++ [(b, m)]) ≤ 1000) := ⟨by omega, by omega⟩
                clear hI7 hM7 CXO CYO HIX HIY HLT hlyY HI0 ka kb
                try clear hc
                try clear hz2
                try clear hz
                go_wp2_with fail
                refine C.out.mono ?_
                rintro e w7 ⟨v7, rfl, r7, f7, o7⟩
                have HT7 := Lib.hid (HT6.out.stepX hB hBw r7 f7 o7)
                clear r7 f7 o7 C HT6
                go_wp2_with fail
                go_roundg (mesG L back (drpG ux' a (k - 1) ++ opnG L back a) (uy' ++ [(b, m)]))
                case measure => exact HM7.out.1
                case rel => exact ⟨st + 1, sum, _, _, _, _, by go_num, rfl, rfl, HM7.out.2, hly, HI7.out, HT7.out⟩

end Go.Proofs.YtodmpcnpedpheaaGreatDoor

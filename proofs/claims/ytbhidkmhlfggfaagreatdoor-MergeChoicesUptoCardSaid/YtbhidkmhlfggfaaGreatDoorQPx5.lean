/- The walks of prefix: check, within, CommonAt, CommonBefore (at known signatures). -/
import Derived.Test.YtbhidkmhlfggfaaGreatDoorQPx4
import Derived.Test.YtbhidkmhlfggfaaGreatDoorQBase
import Derived.Test.YtbhidkmhlfggfaaGreatDoorQErr
import Derived.Test.YtbhidkmhlfggfaaGreatDoorQSet
import Derived.Test.YtbhidkmhlfggfaaGreatDoorQKw5
import Derived.Test.YtbhidkmhlfggfaaGreatDoorQAc1
import Derived.Test.YtbhidkmhlfggfaaGreatDoorQKr0
import Derived.Deep.LoopGhost
import Derived.Deep.DeepCutAuto
import Derived.BigQuiet
import Derived.BigRegion
import Derived.Deep.RegionHeld3
import Derived.Deep.AppendLies
set_option linter.unusedSimpArgs false
set_option linter.unusedVariables false
namespace Go.Proofs.YtbhidkmhlfggfaaGreatDoor
open Go.RowKit
structure SigOk (L : List Ent) (id : Int) : Prop where
 kn : isKnown L id
 lv : id = 0 ∨ 0 ≤ klev L id
theorem SigOk.top {L : List Ent} {id : Int} (h : SigOk L id) : ∃ x : Int, topV L id = .tuple #[.int .i64 x, .nilIface] := by
 unfold topV
 split
 · exact ⟨0, rfl⟩
 · rename_i h0
   rcases h.lv with e | e
   · exact absurd e h0
   · rw [if_pos e]; exact ⟨_, rfl⟩
theorem KyPost.trans {B : Nat} {w w1 w2 : World} {pp tp p mb : Nat} {most : Int} {L : List Ent} {v : Value} {e : Ending} (hk : Kx B mb w w1) (h : KyPost B w1 pp tp p mb most L v e w2) : KyPost B w pp tp p mb most L v e w2 := by
 obtain ⟨T, h1, h2, h3⟩ := h
 exact ⟨T, h1, h2, Ks.trans hk h3⟩
theorem owns_dn {w : World} {b c : Nat} {e : TypeId} {size n : Nat} {v : Value} {xs : List Value} (h : w.ownsRow c e size v n xs) (hb : b ≤ c) : w.ownsRow b e size v n xs := by
 refine ⟨h.1, ?_⟩
 rcases h.2 with h5 | ⟨g, cap, cur, h5, hg, r⟩
 · exact .inl h5
 · exact .inr ⟨g, cap, cur, h5, Nat.le_trans hb hg, r⟩
end Go.Proofs.YtbhidkmhlfggfaaGreatDoor
/- The rows of a comparison in memory; row.at, table.distance. -/
set_option linter.unusedSimpArgs false
set_option linter.unusedVariables false
namespace Go.Proofs.YtbhidkmhlfggfaaGreatDoor
open Go.RowKit
theorem cells6t {w : World} {b : Nat} {x0 x1 x2 x3 x4 x5 : Value} {t : TypeId} (h : w.heap[b]? = some (.cells #[x0, x1, x2, x3, x4, x5] t (0, 0))) :
    w.cell? ⟨b, 0, none⟩ = some x0 ∧ w.cell? ⟨b, 1, none⟩ = some x1 ∧ w.cell? ⟨b, 2, none⟩ = some x2 ∧ w.cell? ⟨b, 3, none⟩ = some x3 ∧ w.cell? ⟨b, 4, none⟩ = some x4 ∧ w.cell? ⟨b, 5, none⟩ = some x5 ∧ b < w.heap.size ∧ ∀ o, w.frozen? ⟨b, o, none⟩ = false :=
 ⟨by rw [cell_of_block h]; rfl, by rw [cell_of_block h]; rfl, by rw [cell_of_block h]; rfl, by rw [cell_of_block h]; rfl, by rw [cell_of_block h]; rfl, by rw [cell_of_block h]; rfl, lt_of_block h, fun o => by simp [World.frozen?, h]⟩
end Go.Proofs.YtbhidkmhlfggfaaGreatDoor
/- The reference's groups in memory, and plain laws of them. -/
set_option linter.unusedSimpArgs false
set_option linter.unusedVariables false
namespace Go.Proofs.YtbhidkmhlfggfaaGreatDoor
open Go.RowKit
def rgz (r : Rgp) : List Value := [.int .i64 r.from_, .int .i64 r.to_, .bool r.l, .bool r.r]
theorem info_rgp : (Tryz.prog.info? 81).map (fun i => (i.zero, i.size, i.bytes)) = some (some (.agg #[.int .i64 0, .int .i64 0, .bool false, .bool false]), 4, 24) := by kernel_rfl
theorem rt_rgp : RT 78 81 4 24 := by
 obtain ⟨i, h1, h2, h3, h4⟩ := info_parts info_rgp
 exact ⟨by omega, i, _, by kernel_rfl, h1, h2, h3, h4, rfl⟩
@[reducible] def rone (b : Bool) (c : PS) : Rgp := ⟨c.at_, c.at_ + c.n, b, !b⟩
def RgRow (w0 w : World) (v : Value) (all : List Rgp) : Prop := w.ownsRow w0.heap.size 81 4 v all.length (all.flatMap rgz)
theorem read_ps {B : Nat} {w : World} {a : Option Addr} {ps : List PS} (h : RG PS.vals 3 B w a ps) (k : Nat) (hk : k < ps.length) : ∃ b off, a = some ⟨b, off, none⟩ ∧ b < w.heap.size ∧ w.cell? ⟨b, off + k * 3, none⟩ = some (.int .i64 ps[k].at_) ∧ w.cell? ⟨b, off + k * 3 + 1, none⟩ = some (.int .i64 ps[k].n) ∧ w.cell? ⟨b, off + k * 3 + 2, none⟩ = some (.string ps[k].s) := by
 obtain ⟨b, off, rfl, lb, _, hc⟩ := h k hk
 exact ⟨b, off, rfl, lb, by have := hc 0 _ rfl; rwa [Nat.add_zero] at this, hc 1 _ rfl, hc 2 _ rfl⟩
theorem read_rg {w0 w : World} {v : Value} {all : List Rgp} (h : RgRow w0 w v all) (k : Nat) (hk : k < all.length) : ∃ b cap, v = .slice (some ⟨b, 0, none⟩) all.length cap ∧ b < w.heap.size ∧ w0.heap.size ≤ b ∧ all.length ≤ cap ∧ w.cell? ⟨b, k * 4, none⟩ = some (.int .i64 all[k].from_) ∧ w.cell? ⟨b, k * 4 + 1, none⟩ = some (.int .i64 all[k].to_) ∧ w.cell? ⟨b, k * 4 + 2, none⟩ = some (.bool all[k].l) ∧ w.cell? ⟨b, k * 4 + 3, none⟩ = some (.bool all[k].r) := by
 unfold RgRow at h
 have h' := h
 rcases h.2 with ⟨_, e⟩ | ⟨g, cap, cur, e, hb, hg, h1, h2, _⟩
 · omega
 · subst e
   have hc : ∀ j u, (rgz all[k])[j]? = some u → w.cell? ⟨g, k * 4 + j, none⟩ = some u := fun j u hj => by
    have hlt : j < 4 := by have := (List.getElem?_eq_some_iff.1 hj).1; simpa [rgz] using this
    have := h'.cells (g := g) rfl (k * 4 + j) u (by rw [flat_get rgz 4 all (fun _ _ => rfl) k j hlt all[k] (List.getElem?_eq_getElem hk)]; exact hj)
    simpa only [Addr.add_lit, Nat.zero_add] using this
   exact ⟨g, cap, rfl, lt_of_block hg, hb, h1, by have := hc 0 _ rfl; rwa [Nat.add_zero] at this, hc 1 _ rfl, hc 2 _ rfl, hc 3 _ rfl⟩
theorem RgRow.kept0 {w0 w w' : World} {v : Value} {all : List Rgp} (h : RgRow w0 w v all) (hf : Fr0 w w') : RgRow w0 w' v all := hf.owns h
theorem rg_start {ps qs : List PS} (hn : ∀ c ∈ ps ++ qs, 0 ≤ c.at_ ∧ 0 ≤ c.n ∧ c.at_ + c.n ≤ 1000000) : Rgi PC.at_ PC.n (ps.map (rone true) ++ qs.map (rone false)) (mrgS PC.at_ (ps.map PS.pc) (qs.map PS.pc)) ∧ (∀ r ∈ ps.map (rone true) ++ qs.map (rone false), 0 ≤ r.from_ ∧ r.from_ ≤ 1000000 ∧ 0 ≤ r.to_ ∧ r.to_ ≤ 1000000) ∧ (∀ z ∈ mrgS PC.at_ (ps.map PS.pc) (qs.map PS.pc), 0 ≤ PC.n z.1) := by
 refine ⟨?_, ?_, ?_⟩
 · have h := Rgi.start (a := PC.at_) (n := PC.n) (zs := (ps.map PS.pc).map (fun c => (c, true)) ++ (qs.map PS.pc).map (fun c => (c, false))) (fun z hz => by
     rcases List.mem_append.1 hz with hz | hz
     · obtain ⟨c, hc, rfl⟩ := List.mem_map.1 hz
       obtain ⟨x, hx, rfl⟩ := List.mem_map.1 hc
       exact (hn x (by simp [hx])).2.1
     · obtain ⟨c, hc, rfl⟩ := List.mem_map.1 hz
       obtain ⟨x, hx, rfl⟩ := List.mem_map.1 hc
       exact (hn x (by simp [hx])).2.1)
   have e : ((ps.map PS.pc).map (fun c => (c, true)) ++ (qs.map PS.pc).map (fun c => (c, false))).map (Rgp.one PC.at_ PC.n) = ps.map (rone true) ++ qs.map (rone false) := by
    simp only [List.map_append, List.map_map]
    rfl
   rw [e] at h
   refine h.zs (fun z => ?_)
   rw [mrgS_mem _ _ _ (Nat.le_refl _) z]
   obtain ⟨z1, z2⟩ := z
   simp only [List.mem_append]
   constructor
   · rintro (⟨h1, h2⟩ | ⟨h1, h2⟩)
     · exact .inl (List.mem_map.2 ⟨z1, h1, by rw [← h2]⟩)
     · exact .inr (List.mem_map.2 ⟨z1, h1, by rw [← h2]⟩)
   · rintro (h | h)
     · obtain ⟨y, h1, h2⟩ := List.mem_map.1 h
       cases h2
       exact .inl ⟨h1, rfl⟩
     · obtain ⟨y, h1, h2⟩ := List.mem_map.1 h
       cases h2
       exact .inr ⟨h1, rfl⟩
 · intro r hr
   rcases List.mem_append.1 hr with hr | hr
   · obtain ⟨x, hx, rfl⟩ := List.mem_map.1 hr
     have := hn x (by simp [hx])
     show 0 ≤ x.at_ ∧ x.at_ ≤ 1000000 ∧ 0 ≤ x.at_ + x.n ∧ x.at_ + x.n ≤ 1000000
     omega
   · obtain ⟨x, hx, rfl⟩ := List.mem_map.1 hr
     have := hn x (by simp [hx])
     show 0 ≤ x.at_ ∧ x.at_ ≤ 1000000 ∧ 0 ≤ x.at_ + x.n ∧ x.at_ + x.n ≤ 1000000
     omega
 · intro z hz
   rcases (mrgS_mem _ _ _ (Nat.le_refl _) z).1 hz with ⟨h1, _⟩ | ⟨h1, _⟩
   · obtain ⟨x, hx, e⟩ := List.mem_map.1 h1
     rw [← e]
     exact (hn x (by simp [hx])).2.1
   · obtain ⟨x, hx, e⟩ := List.mem_map.1 h1
     rw [← e]
     exact (hn x (by simp [hx])).2.1
def joinAt (all : List Rgp) (i k : Nat) (hi : i < all.length) (hk : k < all.length) : List Rgp := all.take i ++ (all.drop (i + 1)).take (k - i - 1) ++ all.drop (k + 1) ++ [all[i].join all[k]]
theorem split_two {α : Type} (all : List α) {i k : Nat} (hik : i < k) (hk : k < all.length) : all = all.take i ++ all[i] :: ((all.drop (i + 1)).take (k - i - 1) ++ all[k] :: all.drop (k + 1)) := by
 have e1 : all = all.take i ++ all.drop i := (List.take_append_drop i all).symm
 have e2 : all.drop i = all[i] :: all.drop (i + 1) := List.drop_eq_getElem_cons (by omega)
 have e3 : all.drop (i + 1) = (all.drop (i + 1)).take (k - i - 1) ++ (all.drop (i + 1)).drop (k - i - 1) := (List.take_append_drop _ _).symm
 have e4 : (all.drop (i + 1)).drop (k - i - 1) = all.drop k := by rw [List.drop_drop]; congr 1; omega
 have e5 : all.drop k = all[k] :: all.drop (k + 1) := List.drop_eq_getElem_cons hk
 rw [← e5, ← e4, ← e3, ← e2, ← e1]
theorem joinAt_ok {all : List Rgp} {i k : Nat} {zs : List (PC × Bool)} (h : Rgi PC.at_ PC.n all zs) (hik : i < k) (hi : i < all.length) (hk : k < all.length) (o : all[i].ovl all[k] = true) : Rgi PC.at_ PC.n (joinAt all i k hi hk) zs ∧ (joinAt all i k hi hk).length + 1 = all.length := by
 have e := split_two all hik hk
 refine ⟨?_, ?_⟩
 · have h2 := h
   rw [e] at h2
   have := h2.joined o
   exact this
 · unfold joinAt
   simp only [List.length_append, List.length_take, List.length_drop, List.length_singleton]
   omega
theorem joinAt_bd {all : List Rgp} {i k : Nat} (hi : i < all.length) (hk : k < all.length) (hb : ∀ r ∈ all, 0 ≤ r.from_ ∧ r.from_ ≤ 1000000 ∧ 0 ≤ r.to_ ∧ r.to_ ≤ 1000000) : ∀ r ∈ joinAt all i k hi hk, 0 ≤ r.from_ ∧ r.from_ ≤ 1000000 ∧ 0 ≤ r.to_ ∧ r.to_ ≤ 1000000 := by
 intro r hr
 unfold joinAt at hr
 rcases List.mem_append.1 hr with hr | hr
 · rcases List.mem_append.1 hr with hr | hr
   · rcases List.mem_append.1 hr with hr | hr
     · exact hb r (List.mem_of_mem_take hr)
     · exact hb r (List.mem_of_mem_drop (List.mem_of_mem_take hr))
   · exact hb r (List.mem_of_mem_drop hr)
 · rw [List.mem_singleton.1 hr]
   have h1 := hb _ (List.getElem_mem hi)
   have h2 := hb _ (List.getElem_mem hk)
   unfold Rgp.join
   dsimp only
   omega
def NoOvl (all : List Rgp) (i : Nat) : Prop := ∀ (x y : Nat) (hx : x < all.length) (hy : y < all.length), x < y → x < i → all[x].ovl all[y] = false
theorem NoOvl.apart {all : List Rgp} (h : NoOvl all all.length) : ApartG all := List.pairwise_iff_getElem.2 fun x y hx hy hxy => h x y hx hy hxy hx
end Go.Proofs.YtbhidkmhlfggfaaGreatDoor
/- The walk of evergreenref43.Side. -/
set_option linter.unusedSimpArgs false
set_option linter.unusedVariables false
namespace Go.Proofs.YtbhidkmhlfggfaaGreatDoor
open Go.RowKit
theorem sbs_app (a b : ByteArray) : sbs (a ++ b) = sbs a ++ sbs b := by
 unfold sbs
 rw [ByteArray.data_append, Array.toList_append, List.map_append]
theorem sbs_ext (s : ByteArray) (A B : Nat) (h : A ≤ B) : sbs (s.extract A B) = ((sbs s).drop A).take (B - A) := by
 unfold sbs
 rw [ByteArray.data_extract, Array.toList_extract, ← List.map_drop, ← List.map_take]
def inR (g : Rgp) (c : PS) : Bool := decide (g.from_ ≤ c.at_ ∧ c.at_ ≤ g.to_)
set_option maxRecDepth 100000 in
set_option maxHeartbeats 4000000 in
theorem r43_Side {B : Nat} {w : World} {s : ByteArray} {a : Option Addr} {ca : Nat} {ps : List PS} {g : Rgp} {RES : List Int} (hA : RG PS.vals 3 B w a ps) (hl : ps.length ≤ 1000) (hg : 0 ≤ g.from_ ∧ g.to_ ≤ s.size) (hs : s.size ≤ 1000) (hw : within g.to_ g.from_ ((ps.filter (inR g)).map PS.pc)) (hr : RES = sdG (sbs s) g.to_ g.from_ ((ps.filter (inR g)).map PS.pc)) (hrl : RES.length ≤ 100000) :
    Calls Tryz.prog 26 #[.string s, .slice a ps.length ca, .agg #[.int .i64 g.from_, .int .i64 g.to_, .bool g.l, .bool g.r]] w fun e w' => ∃ o, e = .returned (.string o) ∧ sbs o = RES ∧ Fr0 w w' := by
 have HA := Lib.hid hA
 have HW := Lib.hid hw
 have HR := Lib.hid hr
 clear hA hw hr
 obtain ⟨gf, gt, gl, gr⟩ := g
 dsimp only at *
 obtain ⟨f, rfl⟩ : ∃ f : Nat, gf = f := ⟨gf.toNat, by omega⟩
 have hfe := HW.out.le
 obtain ⟨e, rfl⟩ : ∃ e : Nat, gt = e := ⟨gt.toNat, by omega⟩
 have HIN : Hid (inR ⟨(f : Int), e, gl, gr⟩ = fun c => decide ((f : Int) ≤ c.at_ ∧ c.at_ ≤ (e : Int))) := rfl
 have F1 : Fr0 w (w.alloc (.cells #[.int .i64 (f : Int), .int .i64 (e : Int), .bool gl, .bool gr] 81 (0, 0))) := (Fr0.refl w).alloc _
 have b1 := alloc_at w (.cells #[.int .i64 (f : Int), .int .i64 (e : Int), .bool gl, .bool gr] 81 (0, 0)) w.heap.size rfl
 have HF1 := Lib.hid F1
 have HB1 := Lib.hid b1
 have he : e ≤ s.size := by omega
 clear F1 b1
 go_enter Tryz.func26, Tryz.ntmps26
 go_upto_region 1 with fail
 obtain ⟨G, hG⟩ : ∃ G, w.heap.size = G := ⟨_, rfl⟩
 rw [hG] at HB1 ⊢
 generalize w.alloc (.cells #[.int .i64 (f : Int), .int .i64 (e : Int), .bool gl, .bool gr] 81 (0, 0)) = W1 at *
 obtain ⟨g0, g1, _, _, gfz, lg⟩ := cells4s HB1.out
 clear hG
 go_wp2_with fail
 clear g0 g1 gfz lg
 generalize hF : inR ⟨(f : Int), e, gl, gr⟩ = F at *
 go_loopg [7, 8, 14] ps.length (fun gk ov av i wr => ∃ (k A : Nat) (o : ByteArray), k + gk = ps.length ∧ i = .int .i64 k ∧ av = .int .i64 A ∧ ov = .string o ∧ Fr0 W1 wr ∧ Hid (sbs o ++ sdG (sbs s) e A (((ps.drop k).filter F).map PS.pc) = RES) ∧ Hid (within e A (((ps.drop k).filter F).map PS.pc)) ∧ A ≤ e)
 case atStart => exact ⟨0, f, ⟨#[]⟩, by omega, rfl, rfl, rfl, Fr0.refl _, by show _ = _; rw [List.drop_zero, HR.out]; rfl, by rw [List.drop_zero]; exact HW.out, by omega⟩
 case round =>
  obtain ⟨k, A, o, hk, rfl, rfl, rfl, hfr, HS, HWI, hAe⟩ := hrel
  obtain ⟨g0, g1, _, _, gfz, lg⟩ := cells4s (hfr.kept HB1.out)
  by_cases hlt : k < ps.length
  · obtain ⟨b0, o0, rfl, lb0, c0, c1, c2⟩ := read_ps (HA.out.kept0 (HF1.out.trans hfr)) k hlt
    have hd : ps.drop k = ps[k] :: ps.drop (k + 1) := List.drop_eq_getElem_cons hlt
    rw [hd] at HS HWI
    have HFR := Lib.hid hfr
    have hFx : F ps[k] = decide ((f : Int) ≤ ps[k].at_ ∧ ps[k].at_ ≤ (e : Int)) := by rw [← hF]; rfl
    obtain ⟨bb, hbb⟩ : ∃ bb, F ps[k] = bb := ⟨_, rfl⟩
    rw [List.filter_cons, hbb] at HS HWI
    rw [hbb] at hFx
    have HFX := Lib.hid hFx
    clear hfr hd hbb hFx
    generalize ps[k] = x at *
    obtain ⟨xa, xn, xs⟩ := x
    dsimp only at *
    go_upto_region 6 with fail
    go_cut [34] (fun u wx => u = .bool (!bb) ∧ Fr0 wr wx)
    case first =>
     have hb := HFX.out
     clear HFX HS HWI HA HR HW
     by_cases h1 : xa < (f : Int)
     · obtain rfl : bb = false := by rw [hb]; exact decide_eq_false (by omega)
       have d1 : decide (xa < (f : Int)) = true := decide_eq_true h1
       clear hb h1
       go_quiet (fail)
       go_wp2_with fail
       go_meet
       exact ⟨rfl, (Fr0.refl _).drewN _⟩
     · have d1 : decide (xa < (f : Int)) = false := decide_eq_false h1
       by_cases h2 : (e : Int) < xa
       · obtain rfl : bb = false := by rw [hb]; exact decide_eq_false (by omega)
         have d2 : decide ((e : Int) < xa) = true := decide_eq_true h2
         clear hb h1 h2
         go_quiet (fail)
         go_wp2_with fail
         go_meet
         exact ⟨rfl, (Fr0.refl _).drewN _⟩
       · obtain rfl : bb = true := by rw [hb]; exact decide_eq_true (by omega)
         have d2 : decide ((e : Int) < xa) = false := decide_eq_false h2
         clear hb h1 h2
         go_quiet (fail)
         go_wp2_with fail
         go_meet
         exact ⟨rfl, (Fr0.refl _).drewN _⟩
    case rest =>
    obtain ⟨rfl, hF2⟩ := hcut
    rename World => W2
    have HF2 := Lib.hid (HFR.out.trans hF2)
    have C0 := (hF2.cell b0 _ lb0).trans c0
    have C1 := (hF2.cell b0 _ lb0).trans c1
    have C2 := (hF2.cell b0 _ lb0).trans c2
    have lb2 : b0 < W2.heap.size := Nat.lt_of_lt_of_le lb0 hF2.size
    clear hF2 c0 c1 c2 lb0 g0 g1 gfz lg HFR
    cases bb with
    | false =>
     rw [if_neg (by simp)] at HS HWI
     go_wp2_with fail
     go_roundg (gk - 1)
     case measure => omega
     case rel => exact ⟨k + 1, A, o, by omega, by go_num, rfl, rfl, HF2.out, HS, HWI, hAe⟩
    | true =>
     rw [if_pos rfl, List.map_cons] at HS HWI
     obtain ⟨w1, w2, w3⟩ := HWI.out
     have w1 : (A : Int) ≤ xa := w1
     have w2 : 0 ≤ xn := w2
     have w4 : xa + xn ≤ e := w3.le
     obtain ⟨P, rfl⟩ : ∃ P : Nat, xa = P := ⟨xa.toNat, by omega⟩
     obtain ⟨N, rfl⟩ : ∃ N : Nat, xn = N := ⟨xn.toNat, by omega⟩
     have HS2 : Hid (sbs ((o ++ s.extract A P) ++ xs) ++ sdG (sbs s) e ((P : Int) + N) (((ps.drop (k + 1)).filter F).map PS.pc) = RES) := by
      have := HS.out
      show _ = _
      rw [← this, sbs_app, sbs_app, sbs_ext s A P (by omega)]
      show _ = sbs o ++ ((((sbs s).drop (A : Int).toNat).take ((P : Int) - A).toNat) ++ (sbs xs ++ sdG (sbs s) e ((P : Int) + N) _))
      rw [show (A : Int).toNat = A by omega, show ((P : Int) - A).toNat = P - A by omega]
      simp
     have HW3 : Hid (within e ((P : Int) + N) (((ps.drop (k + 1)).filter F).map PS.pc)) := w3
     have hol : o.size + (P - A) + xs.size ≤ 100000 := by
      have := congrArg List.length HS2.out
      rw [List.length_append, sbs_len, ByteArray.size_append, ByteArray.size_append, ByteArray.size_extract] at this
      omega
     have HOL := Lib.hid hol
     clear HS HWI w3
     have a1 : (A : Int) ≤ (P : Int) := w1
     have a2 : (P : Int) ≤ (s.size : Int) := by omega
     have a3 := IntWalk.i64_in ((P : Int) + (N : Int)) (by omega)
     have a4 : (0 : Int) ≤ (P : Int) + (N : Int) := by omega
     have a5 : (N : Int) = N := rfl
     clear a5
     go_upto_region 7 with fail
     go_quiet (fail)
     go_upto_region 8 with fail
     go_quiet (fail)
     go_wp2_with fail
     go_roundg (gk - 1)
     case measure => omega
     case rel => exact ⟨k + 1, P + N, _, by omega, by go_num, by go_num, rfl, HF2.out.drewN _, by show _ = _; rw [Int.natCast_add]; exact HS2.out, by show within _ _ _; rw [Int.natCast_add]; exact HW3.out, by omega⟩
  · have hkz : ps.length ≤ k := by omega
    rw [List.drop_of_length_le hkz] at HS HWI
    have hAe2 : (A : Int) ≤ (e : Int) := by omega
    have he2 : (e : Int) ≤ (s.size : Int) := by omega
    have HV : Hid (sbs (o ++ s.extract A e) = RES) := by
     show _ = _
     rw [← HS.out, sbs_app, sbs_ext s A e hAe]
     show _ = sbs o ++ ((sbs s).drop (A : Int).toNat).take ((e : Int) - A).toNat
     rw [show (A : Int).toNat = A by omega, show ((e : Int) - A).toNat = e - A by omega]
    have hol : o.size + (e - A) ≤ 100000 := by
     have := congrArg List.length HV.out
     rw [sbs_len, ByteArray.size_append, ByteArray.size_extract] at this
     omega
    have HFR := Lib.hid (HF1.out.trans hfr)
    clear HS HWI hfr
    go_wp2_with fail
    go_ret
    exact ⟨_, rfl, HV.out, HFR.out⟩
end Go.Proofs.YtbhidkmhlfggfaaGreatDoor
/- The walk of evergreenlaw43.valid. -/
set_option linter.unusedSimpArgs false
set_option linter.unusedVariables false
namespace Go.Proofs.YtbhidkmhlfggfaaGreatDoor
open Go.RowKit
theorem ix0 {a b : Value} (W : World) : Sem.run Tryz.prog (Instr.index 65 (.agg #[a, b]) (.int .i64 0)) W = .ok a W := by
 have h : Tryz.prog.underlying 65 = some (.array 2 22) := by kernel_rfl
 simp [Instr.index, run_underlying h, asIntOf, go_sem]
theorem ix1 {a b : Value} (W : World) : Sem.run Tryz.prog (Instr.index 65 (.agg #[a, b]) (.int .i64 1)) W = .ok b W := by
 have h : Tryz.prog.underlying 65 = some (.array 2 22) := by kernel_rfl
 simp [Instr.index, run_underlying h, asIntOf, go_sem]
set_option maxRecDepth 100000 in
set_option maxHeartbeats 2000000 in
theorem law43_valid {B : Nat} {w : World} {s : ByteArray} {a b : Option Addr} {ca cb : Nat} {ps qs : List PS} (hA : RG PS.vals 3 B w a ps) (hB : RG PS.vals 3 B w b qs) (hl : s.size + costL ps + costL qs ≤ 1000000000) (bb : Bool) (hb : (decide (s.size + costL ps + costL qs ≤ 500) && validP s.size (-1) (ps.map PS.pc) && validP s.size (-1) (qs.map PS.pc)) = bb) :
    Calls Tryz.prog 6 #[.string s, .slice a ps.length ca, .slice b qs.length cb] w fun e w' => e = .returned (.bool bb) ∧ Fr0 w w' := by
 have HA := Lib.hid hA
 have HB := Lib.hid hB
 have HBB := Lib.hid hb
 have hpl1 := costL_len ps
 have hpl2 := costL_len qs
 clear hA hB hb
 go_enter Tryz.func6, Tryz.ntmps6
 go_wp2_with fail
 go_loopg [7, 17] 2 (fun gk n i wr => ∃ (k c : Nat), k + gk = 2 ∧ i = .int .i64 k ∧ n = .int .i64 c ∧ Fr0 w wr ∧ Hid (c = s.size + costs ([ps, qs].take k)))
 case atStart => exact ⟨0, s.size, rfl, rfl, rfl, Fr0.refl w, by show _ = _; simp [costs]⟩
 case round =>
  obtain ⟨k, c, hk, rfl, rfl, hfr, HC⟩ := hrel
  match k, hk with
  | k + 3, hk => omega
  | 0, hk =>
   obtain ⟨q1, q2⟩ := costs_take [ps, qs] 0 (by simp)
   have HQ := Lib.hid q1
   have hcb : c + costL ps ≤ 1000000000 := by
    have h1 := HC.out
    have h2 : costs ([ps, qs].take 1) ≤ costs [ps, qs] := q2
    have h3 : costs ([ps, qs].take 1) = costs ([ps, qs].take 0) + costL ps := q1
    have h4 : costs [ps, qs] = costL ps + costL qs := by simp [costs]
    omega
   have hpl := costL_len ps
   have hi := ix0 (a := .slice a ps.length ca) (b := .slice b qs.length cb) wr
   clear q1 q2
   go_wp2_with fail
   obtain ⟨wo, rfl⟩ : ∃ wo : World, wo = wr := ⟨_, rfl⟩
   go_loopg [7, 22] ps.length (fun gk n i wr => ∃ (j c2 : Nat), j + gk = ps.length ∧ i = .int .i64 j ∧ n = .int .i64 c2 ∧ Fr0 wo wr ∧ Hid (c2 = c + costL (ps.take j)))
   case atStart => exact ⟨0, c, by omega, rfl, rfl, Fr0.refl wo, by show _ = _; simp [costL]⟩
   case round =>
    obtain ⟨j, c2, hj, rfl, rfl, hfr2, HC2⟩ := hrel
    have hgj : gk + j = ps.length := by omega
    clear hj
    by_cases hlt2 : j < ps.length
    · obtain ⟨b2, off2, rfl, lb2, _, hc⟩ := (HA.out.kept0 (hfr.trans hfr2)) j hlt2
      have c0 := hc 0 _ rfl
      have c1 := hc 1 _ rfl
      have c2' := hc 2 _ rfl
      rw [Nat.add_zero] at c0
      obtain ⟨q1, q2⟩ := costL_take ps j hlt2
      have HQ2 := Lib.hid q1
      have hb2 : c2 + (ps[j].s.size + 1) ≤ 1000000000 := by rw [HC2.out]; omega
      have HFR := Lib.hid (hfr.trans hfr2)
      have HF2 := Lib.hid hfr2
      clear hc q1 q2 HA HB hfr hfr2
      generalize ps[j] = x at *
      obtain ⟨xa, xn, xs⟩ := x
      dsimp only at *
      go_wp2_with fail
      go_roundg (gk - 1)
      case measure => omega
      case rel => exact ⟨j + 1, c2 + (xs.size + 1), by omega, by go_num, by go_num, HF2.out.alloc _, by show _ = _; rw [HQ2.out, HC2.out]; omega⟩
    · have hje : j = ps.length := by omega
      have HC3 : Hid (c2 = s.size + costs ([ps, qs].take 1)) := by
       show _ = _
       rw [HC2.out, hje, List.take_length, HC.out, HQ.out]
       simp [costs]
       try omega
      have HFR := Lib.hid (hfr.trans hfr2)
      clear HC2 hje hfr hfr2
      go_wp2_with fail
      go_roundg 1
      case measure => omega
      case rel => exact ⟨1, c2, rfl, by go_num, rfl, HFR.out, HC3⟩
  | 1, hk =>
   obtain ⟨q1, q2⟩ := costs_take [ps, qs] 1 (by simp)
   have HQ := Lib.hid q1
   have hcb : c + costL qs ≤ 1000000000 := by
    have h1 := HC.out
    have h2 : costs ([ps, qs].take 2) ≤ costs [ps, qs] := q2
    have h3 : costs ([ps, qs].take 2) = costs ([ps, qs].take 1) + costL qs := q1
    have h4 : costs [ps, qs] = costL ps + costL qs := by simp [costs]
    omega
   have hpl := costL_len qs
   have hi := ix1 (a := .slice a ps.length ca) (b := .slice b qs.length cb) wr
   clear q1 q2
   go_wp2_with fail
   obtain ⟨wo, rfl⟩ : ∃ wo : World, wo = wr := ⟨_, rfl⟩
   go_loopg [7, 22] qs.length (fun gk n i wr => ∃ (j c2 : Nat), j + gk = qs.length ∧ i = .int .i64 j ∧ n = .int .i64 c2 ∧ Fr0 wo wr ∧ Hid (c2 = c + costL (qs.take j)))
   case atStart => exact ⟨0, c, by omega, rfl, rfl, Fr0.refl wo, by show _ = _; simp [costL]⟩
   case round =>
    obtain ⟨j, c2, hj, rfl, rfl, hfr2, HC2⟩ := hrel
    have hgj : gk + j = qs.length := by omega
    clear hj
    by_cases hlt2 : j < qs.length
    · obtain ⟨b2, off2, rfl, lb2, _, hc⟩ := (HB.out.kept0 (hfr.trans hfr2)) j hlt2
      have c0 := hc 0 _ rfl
      have c1 := hc 1 _ rfl
      have c2' := hc 2 _ rfl
      rw [Nat.add_zero] at c0
      obtain ⟨q1, q2⟩ := costL_take qs j hlt2
      have HQ2 := Lib.hid q1
      have hb2 : c2 + (qs[j].s.size + 1) ≤ 1000000000 := by rw [HC2.out]; omega
      have HFR := Lib.hid (hfr.trans hfr2)
      have HF2 := Lib.hid hfr2
      clear hc q1 q2 HA HB hfr hfr2
      generalize qs[j] = x at *
      obtain ⟨xa, xn, xs⟩ := x
      dsimp only at *
      go_wp2_with fail
      go_roundg (gk - 1)
      case measure => omega
      case rel => exact ⟨j + 1, c2 + (xs.size + 1), by omega, by go_num, by go_num, HF2.out.alloc _, by show _ = _; rw [HQ2.out, HC2.out]; omega⟩
    · have hje : j = qs.length := by omega
      have HC3 : Hid (c2 = s.size + costs ([ps, qs].take 2)) := by
       show _ = _
       rw [HC2.out, hje, List.take_length, HC.out, HQ.out]
       simp [costs]
       try omega
      have HFR := Lib.hid (hfr.trans hfr2)
      clear HC2 hje hfr hfr2
      go_wp2_with fail
      go_roundg 0
      case measure => omega
      case rel => exact ⟨2, c2, rfl, by go_num, rfl, HFR.out, HC3⟩
  | 2, hk =>
   have hc : c = s.size + costL ps + costL qs := by rw [HC.out]; simp [costs]; omega
   have CV1 : Hid (c ≤ 500 → ∀ W (hW : Fr0 wr W), Calls Tryz.prog 21 #[.int .i64 s.size, .slice a ps.length ca] W fun e w' => e = .returned (.bool (validP s.size (-1) (ps.map PS.pc))) ∧ Fr0 W w') := fun h5 W hW => ref37_Valid (cap := ca) (HA.out.kept0 (hfr.trans hW)) (by omega) s.size (by omega) (by omega) _ rfl
   have CV2 : Hid (c ≤ 500 → ∀ W (hW : Fr0 wr W), Calls Tryz.prog 21 #[.int .i64 s.size, .slice b qs.length cb] W fun e w' => e = .returned (.bool (validP s.size (-1) (qs.map PS.pc))) ∧ Fr0 W w') := fun h5 W hW => ref37_Valid (cap := cb) (HB.out.kept0 (hfr.trans hW)) (by omega) s.size (by omega) (by omega) _ rfl
   have hbb := HBB.out
   have HFR := Lib.hid hfr
   have hs9 : s.size ≤ 1000000000 := by omega
   rw [← hc] at hbb
   clear HC HA HB HBB hfr hc
   generalize validP s.size (-1) (ps.map PS.pc) = v1 at *
   generalize validP s.size (-1) (qs.map PS.pc) = v2 at *
   by_cases h5 : c ≤ 500
   · have d5 : decide ((c : Int) ≤ 500) = true := decide_eq_true (by omega)
     rw [decide_eq_true h5] at hbb
     have CV1' := Lib.hid (CV1.out h5)
     have CV2' := Lib.hid (CV2.out h5)
     clear CV1 CV2
     cases v1 with
     | true =>
      have hbb : v2 = bb := hbb
      subst hbb
      clear h5
      go_wp2_with fail
      refine (CV1'.out wr (Fr0.refl _)).mono ?_
      rintro e w3 ⟨rfl, f3⟩
      go_wp2_with fail
      refine (CV2'.out w3 f3).mono ?_
      rintro e w4 ⟨rfl, f4⟩
      go_wp2_with fail
      go_ret
      exact ⟨rfl, HFR.out.trans (f3.trans f4)⟩
     | false =>
      have hbb : false = bb := hbb
      subst hbb
      clear h5
      go_wp2_with fail
      refine (CV1'.out wr (Fr0.refl _)).mono ?_
      rintro e w3 ⟨rfl, f3⟩
      go_wp2_with fail
      go_ret
      exact ⟨rfl, HFR.out.trans f3⟩
   · have d5 : decide ((c : Int) ≤ 500) = false := decide_eq_false (by omega)
     rw [decide_eq_false h5] at hbb
     have hbb : false = bb := hbb
     subst hbb
     clear h5
     go_wp2_with fail
     go_ret
     exact ⟨rfl, HFR.out⟩
end Go.Proofs.YtbhidkmhlfggfaaGreatDoor

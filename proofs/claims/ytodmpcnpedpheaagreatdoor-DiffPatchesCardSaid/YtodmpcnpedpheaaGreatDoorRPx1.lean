/- The walks of package prefix: size, push, drop. -/
import Derived.Test.YtodmpcnpedpheaaGreatDoorRSw8
import Derived.Test.YtodmpcnpedpheaaGreatDoorRSg2
import Derived.WalkSmall
set_option linter.unusedSimpArgs false
set_option linter.unusedVariables false
namespace Go.Proofs.YtodmpcnpedpheaaGreatDoor
open Go.RowKit

/-- The cells of a group. -/
def gvZ (p : Int × Int) : List Value := [.int .i64 p.1, .int .i64 p.2]
theorem gvZ_len (g : List (Int × Int)) : (g.flatMap gvZ).length = g.length * 2 := flat_len gvZ 2 g (fun _ _ => rfl)
theorem gz_set (g : List (Int × Int)) (x k m : Int) : ((g ++ [(x, k)]).flatMap gvZ).set (g.length * 2 + 1) (.int .i64 m) = (g ++ [(x, m)]).flatMap gvZ := by
  have hl := gvZ_len g
  rw [List.flatMap_append, List.flatMap_append, List.set_append_right _ _ (by omega), hl]
  simp [gvZ]

/-- A reader in memory. -/
structure Rd (base : Nat) (w : World) (x pp : Nat) (back : Bool) (td : List (Int × Int)) (v : Value) : Prop where
  box : w.heap[x]? = some (Obj.cells #[.pointer (some ⟨pp, 0, none⟩), .bool back, v] 177 (0, 0))
  row : w.ownsRow base 161 2 v td.length (td.flatMap gvZ)

def rdS (x : Nat) (v : Value) (k : Nat) : Prop := k = x ∨ v.ownBlock = some k

theorem Rd.keep {S : Nat → Prop} {base : Nat} {w w' : World} {x pp : Nat} {back : Bool} {td : List (Int × Int)} {v : Value} (h : Rd base w x pp back td v) (hf : Fr S w w') (h1 : ¬ S x) (h2 : ∀ k, v.ownBlock = some k → ¬ S k) : Rd base w' x pp back td v := ⟨hf.kept h.box h1, hf.owns h.row h2⟩
theorem Rd.kept0 {base : Nat} {w w' : World} {x pp : Nat} {back : Bool} {td : List (Int × Int)} {v : Value} (h : Rd base w x pp back td v) (hf : Fr0 w w') : Rd base w' x pp back td v := ⟨hf.kept h.box, hf.owns h.row⟩
theorem Rd.keptX {B mb base : Nat} {w w' : World} {x pp : Nat} {back : Bool} {td : List (Int × Int)} {v : Value} (h : Rd base w x pp back td v) (hf : Kx B mb w w') : Rd base w' x pp back td v := ⟨hf.cells _ _ _ _ h.box (by decide) id, Kx.owns hf h.row (by decide)⟩
theorem Rd.blk {base : Nat} {w : World} {x pp : Nat} {back : Bool} {td : List (Int × Int)} {v : Value} (h : Rd base w x pp back td v) {k : Nat} (hk : v.ownBlock = some k) : base ≤ k ∧ k < w.heap.size ∧ (∃ cur, w.heap[k]? = some (Obj.cells cur 161 (0, 0))) ∧ k ≠ x := by
  obtain ⟨cur, hc⟩ := owns_block h.row hk
  exact ⟨(h.row.lt k hk).1, (h.row.lt k hk).2, ⟨cur, hc⟩, fun e => by rw [e] at hc; exact ne_of_types hc h.box (by decide) rfl⟩

/-- A parser behind changes of a reader. -/
theorem Rd.ko {B base : Nat} {w w' : World} {x pp : Nat} {back : Bool} {td : List (Int × Int)} {v : Value} (h : Rd base w x pp back td v) (hB : B ≤ base) (hx : B ≤ x) (hf : Fr (rdS x v) w w') : Ko B w w' :=
  (Ko.refl B w).fr hf (fun i hi => by
    rcases hi with rfl | hi
    · exact ⟨hx, _, _, _, h.box, by decide⟩
    · obtain ⟨h1, h2, ⟨cur, hc⟩, _⟩ := h.blk hi
      exact ⟨by omega, _, _, _, hc, by decide⟩)

/-- What a change of a reader leaves. -/
def RdPost (base : Nat) (w : World) (x pp : Nat) (back : Bool) (td' : List (Int × Int)) (v : Value) (e : Ending) (w' : World) : Prop :=
  ∃ v', e = .returned (.tuple #[]) ∧ Rd base w' x pp back td' v' ∧ Fr (rdS x v) w w' ∧ ∀ k, v'.ownBlock = some k → v.ownBlock = some k ∨ w.heap.size ≤ k

/-- The length of a text. -/
theorem px_size {B : Nat} {w : World} {pp tp p mb : Nat} {most : Int} {L : List Ent} {T : List KRow} (h : Pq B w pp tp p mb most L T) (id : Int) (hk : isKnown L id) :
    Calls Tryz.prog 84 #[.pointer (some ⟨pp, 0, none⟩), .int .i64 id] w fun e w' => e = .returned (.int .i64 (txt L id).length) ∧ Fr0 w w' := by
  have C1 := Lib.hid (sig_Store h)
  have C2 := Lib.hid (sto_Weight h.st id hk)
  have hl := txt_len h.dok h.sok _ id (Nat.le_refl _) hk
  clear h hk
  generalize (entAt L id).wt = W0 at *
  go_enter Tryz.func84, Tryz.ntmps84
  go_wp2_with fail
  refine C1.out.mono ?_
  rintro e w1 ⟨rfl, rfl⟩
  go_wp2_with fail
  refine C2.out.mono ?_
  rintro e w2 ⟨rfl, hf⟩
  go_wp2_with fail
  go_ret
  exact ⟨by rw [hl]; rfl, hf.alloc _⟩

theorem Rd.put {base : Nat} {w4 : World} {x pp : Nat} {back : Bool} {td : List (Int × Int)} {u v : Value} (hb : w4.heap[x]? = some (Obj.cells #[.pointer (some ⟨pp, 0, none⟩), .bool back, u] 177 (0, 0))) (hr : w4.ownsRow base 161 2 v td.length (td.flatMap gvZ)) :
    Rd base (w4.setCell ⟨x, 2, none⟩ v) x pp back td v := by
  have hf : Fr (fun k => k = x) w4 (w4.setCell ⟨x, 2, none⟩ v) := fr_set1 (Fr.refl _ w4) 2 v
  refine ⟨setCell_block hb 2 v, hf.owns hr (fun z hz e => ?_)⟩
  obtain ⟨cur, hc⟩ := owns_block hr hz
  rw [e] at hc
  exact ne_of_types hc hb (by decide) rfl

set_option maxRecDepth 100000 in
set_option maxHeartbeats 4000000 in
theorem rd_push {base : Nat} {w : World} {x pp : Nat} {back : Bool} {td : List (Int × Int)} {v : Value} (h : Rd base w x pp back td v) (hb : base ≤ w.heap.size) (hn : td.length ≤ 1000000) (s k : Int) :
    Calls Tryz.prog 105 #[.pointer (some ⟨x, 0, none⟩), .int .i64 s, .int .i64 k] w (RdPost base w x pp back (td ++ [(s, k)]) v) := by
  obtain ⟨c0, c1, c2, cf, lx⟩ := cells3 h.box
  obtain ⟨va, vc, rfl⟩ := owns_form h.row
  have H := Lib.hid h
  clear h
  go_enter Tryz.func105, Tryz.ntmps105
  go_wp2_with (at_builtin; refine wpList_pushG (vals := gvZ) rt_group rfl _ _ rfl base (.slice va td.length vc) td rfl H.out.row hb 161 (s, k) #[.int .i64 s, .int .i64 k] rfl rfl (by simp [gvZ, Value.oneCell']) 1 _ rfl rfl (by omega) hn ?_; intro v' w4 hO4 hg4 hat4; have HF4 := Lib.hid (Fr.grown (S := rdS x (.slice va td.length vc)) (Fr0.fr ((Fr0.refl w).alloc (.cells #[.int .i64 s, .int .i64 k] 161 (0, 0)))) hg4 (fun k hk _ => .inr hk)); have hbx4 := Fr.kept (Fr.grown (S := fun k => (Value.slice va td.length vc).ownBlock = some k) (Fr0.fr ((Fr0.refl w).alloc (.cells #[.int .i64 s, .int .i64 k] 161 (0, 0)))) hg4 (fun k hk _ => hk)) H.out.box (fun e => (H.out.blk e).2.2.2 rfl); obtain ⟨g, gc, hv', _⟩ := own_end hO4 (gvZ_len _); subst hv'; clear c0 c1 c2 cf lx; obtain ⟨c0, c1, c2, cf, lx⟩ := cells3 hbx4; have HO4 := Lib.hid hO4; have HB4 := Lib.hid hbx4; have HAT4 := Lib.hid hat4; clear hO4 hg4 hbx4 hat4)
  refine bodyPost_ret (v := .tuple #[]) (by simp [results, Tryz.results105, go_sem]) rfl ⟨_, rfl, Rd.put HB4.out (by simpa only [List.length_append, List.length_singleton] using HO4.out), HF4.out.setCell _ _ (fun _ => .inl rfl), fun k hk => ?_⟩
  rcases HAT4.out with e | e
  · exact .inl (e.symm.trans hk)
  · have e2 := Option.some.inj (e.symm.trans hk)
    exact .inr (by omega)

set_option maxRecDepth 100000 in
set_option maxHeartbeats 4000000 in
theorem rd_drop {base : Nat} {w : World} {x pp : Nat} {back : Bool} {td : List (Int × Int)} {s k : Int} {v : Value} (h : Rd base w x pp back (td ++ [(s, k)]) v) (hn : td.length ≤ 1000000) (j : Int) (hj0 : 0 ≤ j) (hjk : j ≤ k) (hk : k ≤ 1152921504606846976) :
    Calls Tryz.prog 102 #[.pointer (some ⟨x, 0, none⟩), .int .i64 j] w (RdPost base w x pp back (drpG td s (k - j)) v) := by
  obtain ⟨c0, c1, c2, cf, lx⟩ := cells3 h.box
  obtain ⟨g, gc, rfl, hbg, lg, gf, gcell, hg1, hg2⟩ := own_end h.row (gvZ_len _)
  have g1 := gcell 1 _ rfl
  have H := Lib.hid h
  have q1 : (0 : Int) ≤ (td.length : Int) := by omega
  have q2 : (td.length : Int) < (td.length : Int) + 1 := by omega
  have q3 : IntKind.i64.wrap ((td.length : Int) + 1 - 1) = (td.length : Int) := by rw [show (td.length : Int) + 1 - 1 = (td.length : Int) by omega]; exact wrapI (by omega) (by omega)
  have q4 : IntKind.i64.wrap (k - j) = k - j := wrapI (by omega) (by omega)
  have hgx : g ≠ x := (h.blk rfl).2.2.2
  clear h gcell hbg
  go_enter Tryz.func102, Tryz.ntmps102
  go_wp2_with fail
  go_quiet (fail)
  have F5 : Fr0 w (w.drewN nq) := (Fr0.refl w).drewN nq
  generalize w.drewN nq = W5 at *
  have H5 := H.out.kept0 F5
  have HF5 := Lib.hid F5
  clear c0 c1 c2 cf lx lg gf g1 hg1 hg2 F5
  obtain ⟨c0, c1, c2, cf, lx⟩ := cells3 H5.box
  obtain ⟨g', gc', hgv, hbg, lg, gf, gcell, hg1, hg2⟩ := own_end H5.row (gvZ_len _)
  simp only [Value.slice.injEq, Option.some.injEq, Addr.mk.injEq, and_true, true_and] at hgv
  obtain ⟨rfl, rfl⟩ := hgv
  have g1 := gcell 1 _ rfl
  have H5' := Lib.hid H5
  have hr5 := H5.row
  rw [List.length_append, List.length_singleton] at hr5
  have r1 := owns_set_own hr5 (td.length * 2 + 1) (.int .i64 (k - j)) (by rw [gvZ_len, List.length_append, List.length_singleton]; omega)
  rw [gz_set] at r1
  have hfs : Fr (fun k => k = g) W5 (W5.setCell ⟨g, td.length * 2 + 1, none⟩ (.int .i64 (k - j))) := fr_set1 (Fr.refl _ W5) _ _
  have R6 : Hid (Rd base (W5.setCell ⟨g, td.length * 2 + 1, none⟩ (.int .i64 (k - j))) x pp back (td ++ [(s, k - j)]) (.slice (some ⟨g, 0, none⟩) (td.length + 1) gc)) := ⟨hfs.kept H5.box (fun e => hgx e.symm), by rw [List.length_append, List.length_singleton]; exact r1⟩
  have HF6 := Lib.hid hfs
  clear H5 gcell hbg r1 hfs hr5
  by_cases hz : k - j = 0
  · have q5 : (k - j == 0) = true := by rw [hz]; rfl
    rw [hz] at HF6 R6
    go_upto_region 3 with fail
    generalize W5.setCell ⟨g, td.length * 2 + 1, none⟩ (.int .i64 0) = W6 at *
    clear c0 c1 c2 cf lx g1 gf lg H5'
    obtain ⟨c0, c1, c2, cf, lx⟩ := cells3 R6.out.box
    have q8 : ¬ gc = 0 := by omega
    have q9 : (td.length : Int) ≤ (gc : Int) := by omega
    have rp := R6.out.row
    rw [List.length_append, List.length_singleton, List.flatMap_append] at rp
    have RP := Lib.hid (ownsRow_pop (by rw [gvZ_len]) rp)
    clear rp
    go_region
    all_goals
      go_wp2_with fail
      refine bodyPost_ret (v := .tuple #[]) (by simp [results, Tryz.results102, go_sem]) rfl ⟨.slice (some ⟨g, 0, none⟩) td.length gc, rfl, ?_, ?_, fun k hk => .inl hk⟩
      · unfold drpG
        rw [if_pos hz]
        exact Rd.put (R6.out.kept0 (Fr0.refl W6).drew).box ((Fr0.refl W6).drew.owns RP.out)
      · exact (((Fr0.fr HF5.out).trans HF6.out (fun k hk _ => .inr (congrArg some hk.symm))).trans (Fr0.fr (Fr0.refl W6).drew) (fun _ hk _ => hk)).setCell _ _ (fun _ => .inl rfl)
  · have q5 : (k - j == 0) = false := beq_eq_false_iff_ne.2 hz
    go_wp2_with fail
    refine bodyPost_ret (v := .tuple #[]) (by simp [results, Tryz.results102, go_sem]) rfl ⟨_, rfl, ?_, (Fr0.fr HF5.out).trans HF6.out (fun k hk _ => .inr (congrArg some hk.symm)), fun k hk => .inl hk⟩
    unfold drpG
    rw [if_neg hz]
    exact R6.out

end Go.Proofs.YtodmpcnpedpheaaGreatDoor

/- The walk of reader.open. -/
set_option linter.unusedSimpArgs false
set_option linter.unusedVariables false
namespace Go.Proofs.YtodmpcnpedpheaaGreatDoor
open Go.RowKit

/-- A reader moves on. -/
structure RdStep (w : World) (x : Nat) (v : Value) (w' : World) (v' : Value) : Prop where
  fr : Fr (rdS x v) w w'
  own : ∀ k, v'.ownBlock = some k → v.ownBlock = some k ∨ w.heap.size ≤ k

theorem RdStep.of0 {w w' : World} {x : Nat} {v : Value} (h : Fr0 w w') : RdStep w x v w' v := ⟨Fr0.fr h, fun k hk => .inl hk⟩
theorem RdStep.trans {w w1 w2 : World} {x : Nat} {v v1 v2 : Value} (h : RdStep w x v w1 v1) (g : RdStep w1 x v1 w2 v2) : RdStep w x v w2 v2 :=
  ⟨h.fr.trans g.fr (fun k hk hlt => by
    rcases hk with e | e
    · exact .inl e
    · rcases h.own k e with e2 | e2
      · exact .inr e2
      · omega), fun k hk => by
    have := h.fr.size
    rcases g.own k hk with e | e
    · exact h.own k e
    · exact .inr (by omega)⟩
theorem RdStep.then0 {w w1 w2 : World} {x : Nat} {v v1 : Value} (h : RdStep w x v w1 v1) (f : Fr0 w1 w2) : RdStep w x v w2 v1 := h.trans (RdStep.of0 f)


set_option maxRecDepth 100000 in
set_option maxHeartbeats 4000000 in
theorem rd_open {B base : Nat} {w : World} {x pp tp p mb : Nat} {most : Int} {L : List Ent} {T : List KRow} {back : Bool} {td : List (Int × Int)} {s k : Int} {v : Value} (hp : Pq B w pp tp p mb most L T) (h : Rd base w x pp back (td ++ [(s, k)]) v) (hB : B ≤ base) (hx : B ≤ x) (hbs : base ≤ w.heap.size) (hn : td.length ≤ 900000) (hks : isKnown L s) (hs0 : s ≠ 0) (h1 : (entAt L s).rule.kind ≠ 1) (hk1 : 1 ≤ k) (hk : k ≤ 1152921504606846976) :
    Calls Tryz.prog 104 #[.pointer (some ⟨x, 0, none⟩)] w (RdPost base w x pp back (drpG td s (k - 1) ++ opnG L back s) v) := by
  obtain ⟨c0, c1, c2, cf, lx⟩ := cells3 h.box
  obtain ⟨g, gc, rfl, hbg, lg, gf, gcell, hg1, hg2⟩ := own_end h.row (gvZ_len _)
  have g0 := gcell 0 _ rfl
  rw [Nat.add_zero] at g0
  have CD := Lib.hid (fun (W : World) (hf : Fr0 w W) => rd_drop (h.kept0 hf) (by omega) 1 (by omega) hk1 hk)
  have H := Lib.hid h
  have HP := Lib.hid hp
  have q1 : (0 : Int) ≤ (td.length : Int) := by omega
  have q2 : (td.length : Int) < (td.length : Int) + 1 := by omega
  have q3 : IntKind.i64.wrap ((td.length : Int) + 1 - 1) = (td.length : Int) := by rw [show (td.length : Int) + 1 - 1 = (td.length : Int) by omega]; exact wrapI (by omega) (by omega)
  have hkd : (entAt L s).rule.kind = 2 ∨ (entAt L s).rule.kind = 3 := by
    rcases hp.dok.at s hks hs0 with ⟨g1, _⟩ | ⟨g1, _⟩ | ⟨g1, _⟩
    · exact absurd g1 h1
    · exact .inl g1
    · exact .inr g1
  have hdl : (drpG td s (k - 1)).length ≤ td.length + 1 := by unfold drpG; split <;> simp
  obtain ⟨E, hE⟩ : ∃ E, (entAt L s).rule = E := ⟨_, rfl⟩
  obtain ⟨kd, le, l, r, tm⟩ := E
  have CR := Lib.hid (fun (W : World) (hW : ∃ T', Pq B W pp tp p mb most L T') => by
    obtain ⟨T', hW⟩ := hW
    have hc := sto_Rule hW.st s hks hs0
    rw [hE] at hc
    exact hc)
  have HOP : Hid (opnG L back s = if kd = 3 then [(l, tm)] else if kd = 2 then (if back then [(l, 1), (r, 1)] else [(r, 1), (l, 1)]) else []) := by
    show _ = _
    unfold opnG; rw [hE]
  rw [hE] at hkd
  dsimp only at hkd
  clear h hp gcell hbg h1 hE
  go_enter Tryz.func104, Tryz.ntmps104
  go_wp2_with fail
  go_quiet (fail)
  have F5 : Fr0 w (w.drewN nq) := (Fr0.refl w).drewN nq
  generalize w.drewN nq = W5 at *
  have HF5 := Lib.hid F5
  clear c0 c1 c2 cf lx lg gf g0 hg1 hg2 F5
  go_wp2_with fail
  refine (CD.out W5 HF5.out).mono ?_
  rintro e w1 ⟨v1, rfl, r1, f1, o1⟩
  have S1 := Lib.hid ((RdStep.of0 HF5.out).trans ⟨f1, o1⟩)
  have P1 := Lib.hid ((HP.out.kept0 HF5.out).keptO (Rd.ko (H.out.kept0 HF5.out) hB hx f1))
  have R1 := Lib.hid r1
  have s1 : base ≤ w1.heap.size := by have a1 := Fr.size HF5.out; have a2 := f1.size; omega
  clear f1 o1 r1 CD
  obtain ⟨c0, c1, c2, cf, lx⟩ := cells3 R1.out.box
  have C1 := Lib.hid (sig_Store P1.out)
  go_wp2_with fail
  refine C1.out.mono ?_
  rintro e w2 ⟨rfl, rfl⟩
  go_wp2_with fail
  refine (CR.out _ ⟨_, P1.out⟩).mono ?_
  rintro e w2 ⟨rfl, hf2⟩
  go_upto_if 30 with fail
  have F3 : Fr0 w1 (w2.alloc (.cells #[.int .i64 kd, .int .u8 le, .int .i64 l, .int .i64 r, .int .i64 tm] 42 (0, 0))) := hf2.alloc _
  have b8 := alloc_at w2 (.cells #[.int .i64 kd, .int .u8 le, .int .i64 l, .int .i64 r, .int .i64 tm] 42 (0, 0)) w2.heap.size rfl
  generalize w2.alloc (.cells #[.int .i64 kd, .int .u8 le, .int .i64 l, .int .i64 r, .int .i64 tm] 42 (0, 0)) = W3 at *
  generalize w2.heap.size = K at *
  have R3 := R1.out.kept0 F3
  have S3 := Lib.hid (S1.out.then0 F3)
  have s3 : base ≤ W3.heap.size := by have := Fr.size F3; omega
  have HR3 := Lib.hid R3
  have HB8 := Lib.hid b8
  have kx : ∀ u : Value, ∀ td', Rd base W3 x pp back td' u → ¬ rdS x u K := fun u td' hr hc => by
    rcases hc with e | e
    · subst e; exact ne_of_types b8 hr.box (by decide) rfl
    · obtain ⟨cur, hq⟩ := owns_block hr.row e
      exact ne_of_types b8 hq (by decide) rfl
  have kx1 := Lib.hid (kx _ _ R3)
  clear c0 c1 c2 cf lx C1 R1 S1 P1 HP H HF5 CR hf2 F3 kx
  obtain ⟨c0, c1, c2, cf, lx⟩ := cells3 R3.box
  obtain ⟨e0, e1, e2, e3, e4, le8⟩ := cells5 b8
  clear R3 b8
  rcases hkd with rfl | rfl
  · cases back with
    | true =>
      go_wp2_with fail
      refine (rd_push HR3.out s3 (by omega) l 1).mono ?_
      rintro e w4 ⟨v4, rfl, r4, f4, o4⟩
      have S4 := Lib.hid (S3.out.trans ⟨f4, o4⟩)
      have s4 : base ≤ w4.heap.size := by have := f4.size; omega
      have b9 := f4.kept HB8.out kx1.out
      have R4 := Lib.hid r4
      clear c0 c1 c2 cf lx e0 e1 e2 e3 e4 le8 r4 f4 o4
      obtain ⟨c0, c1, c2, cf, lx⟩ := cells3 R4.out.box
      obtain ⟨e0, e1, e2, e3, e4, le8⟩ := cells5 b9
      go_wp2_with fail
      refine (rd_push R4.out s4 (by simp; omega) r 1).mono ?_
      rintro e w5 ⟨v5, rfl, r5, f5, o5⟩
      have S5 := S4.out.trans ⟨f5, o5⟩
      go_wp2_with fail
      refine bodyPost_ret (v := .tuple #[]) (by simp [results, Tryz.results104, go_sem]) rfl ⟨v5, rfl, ?_, S5.fr, S5.own⟩
      rw [HOP.out, if_neg (by decide), if_pos trivial, if_pos trivial]
      rw [List.append_assoc] at r5
      exact r5
    | false =>
      go_wp2_with fail
      refine (rd_push HR3.out s3 (by omega) r 1).mono ?_
      rintro e w4 ⟨v4, rfl, r4, f4, o4⟩
      have S4 := Lib.hid (S3.out.trans ⟨f4, o4⟩)
      have s4 : base ≤ w4.heap.size := by have := f4.size; omega
      have b9 := f4.kept HB8.out kx1.out
      have R4 := Lib.hid r4
      clear c0 c1 c2 cf lx e0 e1 e2 e3 e4 le8 r4 f4 o4
      obtain ⟨c0, c1, c2, cf, lx⟩ := cells3 R4.out.box
      obtain ⟨e0, e1, e2, e3, e4, le8⟩ := cells5 b9
      go_wp2_with fail
      refine (rd_push R4.out s4 (by simp; omega) l 1).mono ?_
      rintro e w5 ⟨v5, rfl, r5, f5, o5⟩
      have S5 := S4.out.trans ⟨f5, o5⟩
      go_wp2_with fail
      refine bodyPost_ret (v := .tuple #[]) (by simp [results, Tryz.results104, go_sem]) rfl ⟨v5, rfl, ?_, S5.fr, S5.own⟩
      rw [HOP.out, if_neg (by decide), if_pos trivial, if_neg (by decide)]
      rw [List.append_assoc] at r5
      exact r5
  · go_wp2_with fail
    refine (rd_push HR3.out s3 (by omega) l tm).mono ?_
    rintro e w5 ⟨v5, rfl, r5, f5, o5⟩
    have S5 := S3.out.trans ⟨f5, o5⟩
    go_wp2_with fail
    refine bodyPost_ret (v := .tuple #[]) (by simp [results, Tryz.results104, go_sem]) rfl ⟨v5, rfl, ?_, S5.fr, S5.own⟩
    rw [HOP.out, if_pos trivial]
    exact r5

end Go.Proofs.YtodmpcnpedpheaaGreatDoor

/- Spans of rows, and the walk of blame.Since over any patches. -/
import Derived.Test.YtbokcmkbnkncoaaVal2
import Derived.Test.YtbokcmkbnkncoaaCov
import Derived.BigRegion
import Derived.Deep.DeepCutAuto
set_option linter.unusedSimpArgs false
set_option linter.unusedVariables false
namespace Go.Proofs.Ytbokcmkbnkncoaa
open Go.RowKit

structure Sp where
  fr : Int
  n : Int
deriving DecidableEq, Inhabited

def Sp.vals (s : Sp) : List Value := [.int .i64 s.fr, .int .i64 s.n]
def spCells (l : List Sp) : List Value := l.flatMap Sp.vals

/-- One range more. -/
def addSp (l : List Sp) (fr n : Int) : List Sp :=
  match l.getLast? with
  | none => [⟨fr, n⟩]
  | some s => if s.fr + s.n = fr then l.dropLast ++ [⟨s.fr, s.n + n⟩] else l ++ [⟨fr, n⟩]

/-- The ranges of the rows with later versions. -/
def sinceR (v : Int) (rs : List Rw) : List Sp := rs.foldl (fun l r => if r.ver ≤ v then l else addSp l r.fr r.n) []

theorem sinceR_snoc (v : Int) (rs : List Rw) (k : Nat) (h : k < rs.length) : sinceR v (rs.take (k + 1)) = if rs[k].ver ≤ v then sinceR v (rs.take k) else addSp (sinceR v (rs.take k)) rs[k].fr rs[k].n := by
  unfold sinceR
  rw [List.take_succ_eq_append_getElem h, List.foldl_append]
  rfl

theorem addSp_none {l : List Sp} (h : l.getLast? = none) (fr n : Int) : addSp l fr n = l ++ [⟨fr, n⟩] := by
  unfold addSp; rw [h, List.getLast?_eq_none_iff.1 h]; rfl
theorem addSp_new {l : List Sp} {s : Sp} (h : l.getLast? = some s) {fr : Int} (n : Int) (hne : s.fr + s.n ≠ fr) : addSp l fr n = l ++ [⟨fr, n⟩] := by
  unfold addSp; rw [h]; exact if_neg hne
theorem addSp_join {l : List Sp} {s : Sp} (h : l.getLast? = some s) {fr : Int} (n : Int) (he : s.fr + s.n = fr) : addSp l fr n = l.dropLast ++ [⟨s.fr, s.n + n⟩] := by
  unfold addSp; rw [h]; exact if_pos he

def SpOk (p : Int) (l : List Sp) : Prop := ∀ s ∈ l, 0 ≤ s.fr ∧ 1 ≤ s.n ∧ s.fr + s.n ≤ p

theorem SpOk.mono {p q : Int} {l : List Sp} (h : SpOk p l) (hq : p ≤ q) : SpOk q l := fun s hs => by have := h s hs; omega
theorem SpOk.snoc {p : Int} {l : List Sp} (h : SpOk p l) (n : Int) (h0 : 0 ≤ p) (hn : 1 ≤ n) : SpOk (p + n) (l ++ [⟨p, n⟩]) := by
  intro s hs
  rcases List.mem_append.1 hs with g | g
  · have := h s g; omega
  · simp at g; subst g; dsimp only; omega

theorem addSp_ok {p : Int} {l : List Sp} (h : SpOk p l) (n : Int) (h0 : 0 ≤ p) (hn : 1 ≤ n) : SpOk (p + n) (addSp l p n) := by
  cases hg : l.getLast? with
  | none => rw [addSp_none hg]; exact h.snoc n h0 hn
  | some s =>
    by_cases he : s.fr + s.n = p
    · rw [addSp_join hg n he]
      have hs := h s (List.mem_of_getLast? hg)
      intro x hx
      rcases List.mem_append.1 hx with g | g
      · have := h x (List.dropLast_subset _ g); omega
      · simp at g; subst g; dsimp only; omega
    · rw [addSp_new hg n he]; exact h.snoc n h0 hn

theorem addSp_len (l : List Sp) (fr n : Int) : (addSp l fr n).length ≤ l.length + 1 := by
  cases hg : l.getLast? with
  | none => rw [addSp_none hg]; simp
  | some s =>
    by_cases he : s.fr + s.n = fr
    · rw [addSp_join hg n he]; simp
    · rw [addSp_new hg n he]; simp

theorem sinceR_len (v : Int) : ∀ (rs : List Rw) (k : Nat), k ≤ rs.length → (sinceR v (rs.take k)).length ≤ k
  | rs, 0, _ => by simp [sinceR]
  | rs, k + 1, h => by
    have ih := sinceR_len v rs k (by omega)
    rw [sinceR_snoc v rs k (by omega)]
    split
    · omega
    · have := addSp_len (sinceR v (rs.take k)) rs[k].fr rs[k].n; omega

theorem owned_sp {w : World} {v : Value} {l : List Sp} (h : w.ownsRow 0 68 2 v l.length (spCells l)) {k : Nat} {s : Sp} (hx : l[k]? = some s) :
    ∃ lb cap, v = .slice (some ⟨lb, 0, none⟩) l.length cap ∧ ∀ j u, s.vals[j]? = some u → w.cell? ⟨lb, k * 2 + j, none⟩ = some u := by
  have hlt : k < l.length := (List.getElem?_eq_some_iff.1 hx).1
  obtain ⟨lb, cap, hsv, _, _⟩ := h.form (by omega)
  refine ⟨lb, cap, hsv, fun j u hu => ?_⟩
  have hj : j < 2 := by have := (List.getElem?_eq_some_iff.1 hu).1; simpa [Sp.vals] using this
  rw [hsv] at h
  refine owns_cell h _ _ ?_
  rw [spCells, flat_get Sp.vals 2 l (fun _ _ => rfl) k j hj s hx]
  exact hu

theorem spCells_set (init : List Sp) (s : Sp) (m : Int) : (spCells (init ++ [s])).set (init.length * 2 + 1) (.int .i64 m) = spCells (init ++ [⟨s.fr, m⟩]) := by
  have hl : (spCells init).length = init.length * 2 := flat_len Sp.vals 2 init (fun _ _ => rfl)
  unfold spCells at *
  rw [List.flatMap_append, List.flatMap_append, List.set_append_right _ _ (by omega), hl]
  simp [Sp.vals]

theorem info_span : (Try.prog.info? 68).map (fun i => (i.zero, i.size, i.bytes)) = some (some (.agg #[.int .i64 0, .int .i64 0]), 2, 16) := by kernel_rfl

theorem owns_free {w : World} {base : Nat} {e : TypeId} {size n : Nat} {v : Value} {xs : List Value} (h : w.ownsRow base e size v n xs) {k : Nat} (hk : v.ownBlock = some k) (o : Nat) : w.frozen? ⟨k, o, none⟩ = false := by
  obtain ⟨cur, hc⟩ := owns_block h hk
  exact frozen_of_block hc o

/-- What holds at each round's head, of spans l made so far. -/
structure SRel (w wr : World) (v : Value) (l : List Sp) (p : Int) : Prop where
  frame : Fr0 w wr
  own : wr.ownsRow 0 68 2 v l.length (spCells l)
  new : ∀ k, v.ownBlock = some k → w.heap.size ≤ k
  ok : SpOk p l

theorem SRel.same {w wr w' : World} {v : Value} {l : List Sp} {p q : Int} (h : SRel w wr v l p) (hf : Fr0 wr w') (hq : p ≤ q) : SRel w w' v l q :=
  ⟨h.frame.trans hf, hf.owns h.own, h.new, h.ok.mono hq⟩

theorem SRel.join {w wr : World} {lb cap : Nat} {l : List Sp} {s : Sp} {p n : Int} (h : SRel w wr (.slice (some ⟨lb, 0, none⟩) l.length cap) l p) (hg : l.getLast? = some s) (he : s.fr + s.n = p) (h0 : 0 ≤ p) (hn : 1 ≤ n) :
    SRel w (wr.setCell ⟨lb, (l.length - 1) * 2 + 1, none⟩ (.int .i64 (s.n + n))) (.slice (some ⟨lb, 0, none⟩) l.length cap) (addSp l p n) (p + n) ∧ (addSp l p n).length = l.length := by
  have hok := addSp_ok h.ok n h0 hn
  rw [addSp_join hg n he] at hok ⊢
  have hne : l ≠ [] := by rintro rfl; cases hg
  have hel : l.dropLast ++ [s] = l := by
    have h1 := List.dropLast_concat_getLast hne
    rw [List.getLast?_eq_some_getLast hne] at hg
    rw [Option.some.inj hg] at h1
    exact h1
  have hll : l.length = l.dropLast.length + 1 := by rw [← hel]; simp
  have hlen : (l.dropLast ++ [(⟨s.fr, s.n + n⟩ : Sp)]).length = l.length := by simp; omega
  refine ⟨⟨h.frame.setCell _ _ (h.new lb rfl), ?_, h.new, hok⟩, hlen⟩
  rw [hlen]
  have h1 := owns_set_own h.own ((l.length - 1) * 2 + 1) (.int .i64 (s.n + n)) (by rw [h.own.1]; omega)
  have h2 : (spCells l).set ((l.length - 1) * 2 + 1) (.int .i64 (s.n + n)) = spCells (l.dropLast ++ [⟨s.fr, s.n + n⟩]) := by
    rw [← spCells_set l.dropLast s (s.n + n), hel, hll]; rfl
  rw [h2] at h1
  exact h1

theorem SRel.push {w wr w1 : World} {v : Value} {l : List Sp} {p n : Int} {o : Obj} {g cap : Nat} (h : SRel w wr v l p) (hadd : addSp l p n = l ++ [⟨p, n⟩]) (h0 : 0 ≤ p) (hn : 1 ≤ n)
    (hown1 : w1.ownsRow 0 68 2 (.slice (some ⟨g, 0, none⟩) (l.length + 1) cap) (l.length + 1) (spCells l ++ [.int .i64 p, .int .i64 n])) (hgrow : (wr.alloc o).grownBy w1 v.ownBlock) (hat : v.ownBlock = some g ∨ g = wr.heap.size + 1) :
    SRel w w1 (.slice (some ⟨g, 0, none⟩) (l.length + 1) cap) (addSp l p n) (p + n) ∧ (addSp l p n).length = l.length + 1 := by
  have hok := addSp_ok h.ok n h0 hn
  rw [hadd] at hok ⊢
  refine ⟨⟨Fr.grown (Fr.alloc h.frame o) hgrow (fun j hj hlt => by have := h.new j hj; omega), ?_, ?_, hok⟩, by simp⟩
  · have e : spCells (l ++ [⟨p, n⟩]) = spCells l ++ [.int .i64 p, .int .i64 n] := by simp [spCells, Sp.vals]
    rw [e, List.length_append]
    exact hown1
  · intro k hk
    simp [Value.ownBlock] at hk
    subst hk
    have := h.frame.size'
    rcases hat with e | e
    · exact h.new _ e
    · omega

def SincePost (w : World) (l : List Sp) (e : Ending) (w' : World) : Prop :=
  ∃ lv, e = .returned (.tuple #[lv, .nilIface]) ∧ Fr0 w w' ∧ w'.ownsRow 0 68 2 lv l.length (spCells l) ∧ (∀ k, lv.ownBlock = some k → w.heap.size ≤ k)

set_option maxRecDepth 100000 in
set_option maxHeartbeats 2000000 in
theorem bl_Since {w : World} {p mb : Nat} {most : Int} {sv : Value} {L : List Ent} (hS : St w p mb most sv L) (hO : SOk L) (length : Int) (n0 : Nat) (hn0 : length = n0) (h1 : length ≤ 1152921504606846976) (a : Option Addr) (cap : Nat) (pss : List (List Chg)) (hp : PsAt w a pss) (hb : ofB L 0 (run n0 0 0) pss) (hw : wsum pss ≤ 899999) (hpl : pss.length ≤ 1000000)
    (T : List Lt) (hT : ofR L 0 (run n0 0 0) pss = (0, T)) (hTl : (T.length : Int) ≤ 1152921504606846976) (version : Int) (hv0 : 0 ≤ version) (hv1 : version ≤ pss.length) :
    Calls Try.prog 21 #[.pointer (some ⟨p, 0, none⟩), .int .i64 length, .int .i64 version, .slice a pss.length cap] w (SincePost w (sinceR version (rowsOf T))) := by
  have CO := Lib.hid (bl_Of hS hO length n0 hn0 h1 a cap pss hp hb hw hpl)
  rw [hT] at CO
  have hcv := Lib.hid (Cv.rows T)
  obtain ⟨i1, hi1, ha1, ha2, ha3⟩ := info_parts info_span
  have hu1 : Try.prog.underlying 62 = some (.slice 68) := Try.underlying62
  have d0 : decide (version < 0) = false := decide_eq_false (by omega)
  have d1 : decide ((pss.length : Int) < version) = false := decide_eq_false (by omega)
  clear hS hO hp hb hT hn0 h1
  go_enter Try.func21, Try.ntmps21
  go_wp2_with fail
  refine CO.out.mono ?_
  rintro e w3 ⟨f3, hO3⟩
  rcases hO3 with ⟨hbad, _⟩ | ⟨_, rv, rfl, hrv, hfew, hrn⟩
  · exact absurd rfl hbad
  obtain ⟨ra, rcap, rfl⟩ := owns_form hrv
  obtain ⟨_, hR, _⟩ := rowsAt_of_owns hrv
  have HR := Lib.hid hR
  simp only at hfew
  clear hrv hrn CO hR
  obtain ⟨rs, hrs⟩ : ∃ rs, rowsOf T = rs := ⟨_, rfl⟩
  have HRS := Lib.hid hrs
  simp only [hrs] at hfew HR hcv ⊢
  clear hrs
  go_wp2_with fail
  clear d0 d1
  go_loopw [12, 37] (fun v i wr => ∃ (k : Nat) (p : Int) (l : List Sp), k ≤ rs.length ∧ i = .int .i64 k ∧ Hid (sinceR version (rs.take k) = l) ∧ (∃ a cap, v = .slice a l.length cap) ∧ SRel w3 wr v l p ∧ Hid (Cv p (rs.drop k) (T.drop p.toNat)) ∧ 0 ≤ p ∧ p ≤ T.length) (fun _ i _ => rs.length - (intOf i).toNat)
  case atStart => exact ⟨0, 0, [], Nat.zero_le _, rfl, rfl, ⟨none, 0, rfl⟩, ⟨Fr0.refl _, World.ownsRow_nil _ _ _ _, fun k hk => by simp [Value.ownBlock] at hk, fun s hs => by simp at hs⟩, hcv.out, by omega, by omega⟩
  case round =>
    obtain ⟨k, p, l, hk, rfl, HL, ⟨va, vcap, rfl⟩, hS, HC, hp0, hp1⟩ := hrel
    have hfr := hS.frame
    by_cases hlt : k < rs.length
    · have hC := HC.out
      rw [List.drop_eq_getElem_cons hlt] at hC
      have hnx := Lib.hid (hC.next hp0)
      have hle := hC.le hp0
      obtain ⟨hpe, hn1, hjunk⟩ := hC
      clear hjunk
      subst hpe
      obtain ⟨b, off, hab, lb0, x0, x1, x2, x3⟩ := (HR.out.kept0 hfr) k hlt
      subst hab
      have hsn := sinceR_snoc version rs k hlt
      rw [HL.out] at hsn
      have HSN := Lib.hid hsn
      have hll : l.length ≤ k := by rw [← HL.out]; exact sinceR_len version rs k hk
      have HS := Lib.hid hS
      clear hsn hS
      generalize rs[k] = r at *
      by_cases hv : r.ver ≤ version
      · have HSN2 := Lib.hid (HSN.out.trans (if_pos hv))
        go_wp2_with fail
        go_roundw
        case rel => exact ⟨k + 1, r.fr + r.n, l, by omega, by go_num, HSN2, ⟨_, _, rfl⟩, HS.out.same ((Fr0.refl _).alloc _) (by omega), hnx, by omega, by omega⟩
        case measure => simp [intOf]; omega
      · have HSN2 := Lib.hid (HSN.out.trans (if_neg hv))
        clear HSN
        have hown := HS.out.own
        have hn63 : l.length + 1 ≤ maxLen := by unfold maxLen; omega
        have hby : (l.length + 1) * 16 ≤ 140737488355328 := by omega
        obtain ⟨W1, hW1⟩ : ∃ W1, wr.alloc (.cells #[.int .i64 r.fr, .int .i64 r.n, .int .i64 r.ver, .int .i64 r.org] 51 (0, 0)) = W1 := ⟨_, rfl⟩
        have hf1 : Fr0 wr W1 := by rw [← hW1]; exact (Fr0.refl _).alloc _
        have hrb : W1.heap[wr.heap.size]? = some (.cells #[.int .i64 r.fr, .int .i64 r.n, .int .i64 r.ver, .int .i64 r.org] 51 (0, 0)) := by rw [← hW1]; exact alloc_at _ _ _ rfl
        obtain ⟨q0, q1, q2, q3, qf, ql⟩ := cells4 hrb
        have hqv : (Value.slice va l.length vcap).ownBlock ≠ some wr.heap.size := by
          intro e
          obtain ⟨cur, hcur⟩ := owns_block hown e
          have := lt_of_block hcur
          omega
        have HS1 := Lib.hid (HS.out.same hf1 (Int.le_refl _))
        have HF1 := Lib.hid hf1
        clear hf1 hrb hown
        cases hg : l.getLast? with
        | none =>
          have hadd := addSp_none hg r.fr r.n
          obtain rfl : l = [] := List.getLast?_eq_none_iff.1 hg
          have HADD := Lib.hid hadd
          clear hg hadd
          go_upto_region 12 with fail
          try rw [hW1]
          clear hW1
          generalize wr.heap.size = sr at *
          go_cut [66] (fun s wx => s = .bool false ∧ Fr0 W1 wx)
          case first =>
            go_quiet (fail)
            go_wp2_with fail
            go_meet
            exact ⟨rfl, (Fr0.refl W1).drewN _⟩
          case rest =>
            obtain ⟨rfl, hf2⟩ := hcut
            have q0' := (hf2.cell sr 0 ql).trans q0
            have q1' := (hf2.cell sr 1 ql).trans q1
            have ql' : sr < wc.heap.size := Nat.lt_of_lt_of_le ql hf2.size'
            have hS2 := HS1.out.same hf2 (Int.le_refl _)
            have HS2 := Lib.hid hS2
            clear q0 q1 q2 q3 qf
            go_wp2_with (at_builtin; refine wpList_append_lies _ rfl _ _ _ rfl 0 68 i1 _ 2 16 hu1 hi1 ha1 ha2 ha3 rfl (by omega) _ ([] : List Sp).length (spCells ([] : List Sp)) rfl (hS2.own.alloc _) ⟨wc.heap.size, 0, none⟩ 1 1 [.int .i64 r.fr, .int .i64 r.n] rfl rfl (World.news_of_block (cs := #[.int .i64 r.fr, .int .i64 r.n]) (t := 68) (fr := (0, 0)) (heap_alloc_new wc _)) (by simp [Value.oneCell']) (by omega) hn63 hby (by omega) (wc.heap.size + 1) (by simp) ?_; intro g cap' w1 hown1 hgrow hat hlt2)
            obtain ⟨j1, j2⟩ := HS2.out.push HADD.out hp0 hn1 hown1 hgrow hat
            go_roundw
            case rel => exact ⟨k + 1, r.fr + r.n, addSp ([] : List Sp) r.fr r.n, by omega, by go_num, HSN2, ⟨some ⟨g, 0, none⟩, cap', by simp [j2]⟩, j1, hnx, by omega, by omega⟩
            case measure => simp [intOf]; omega
        | some s =>
          have hx : l[l.length - 1]? = some s := by rw [← List.getLast?_eq_getElem?]; exact hg
          have hpos : 0 < l.length := by have := (List.getElem?_eq_some_iff.1 hx).1; omega
          obtain ⟨lb, vcap', hrv2, hc⟩ := owned_sp HS1.out.own hx
          simp only [Value.slice.injEq] at hrv2
          obtain ⟨rfl, _, rfl⟩ := hrv2
          have y0 := hc 0 _ rfl
          have y1 := hc 1 _ rfl
          rw [Nat.add_zero] at y0
          have hso := HS1.out.ok s (List.mem_of_getLast? hg)
          have g1 : (0 : Int) ≤ (l.length : Int) - 1 := by omega
          have g2 : (l.length : Int) - 1 < (l.length : Int) := by omega
          have g3 : (1 : Int) ≤ (l.length : Int) := by omega
          have g5 := IntWalk.i64_in (s.fr + s.n) (by omega)
          have g6 := IntWalk.i64_in ((l.length : Int) - 1) (by omega)
          have hneb : ¬ lb = wr.heap.size := by simpa [Value.ownBlock] using hqv
          clear hc hx
          by_cases he : s.fr + s.n = r.fr
          · have e1 : (s.fr + s.n == r.fr) = true := by simpa using he
            have HG := Lib.hid hg
            have HE := Lib.hid he
            clear he hg
            go_upto_region 12 with fail
            try rw [hW1]
            clear hW1
            generalize wr.heap.size = sr at *
            go_cut [66] (fun s wx => s = .bool true ∧ Fr0 W1 wx)
            case first =>
              go_quiet (fail)
              go_wp2_with fail
              go_meet
              exact ⟨rfl, (Fr0.refl W1).drewN _⟩
            case rest =>
              obtain ⟨rfl, hf2⟩ := hcut
              have q0' := (hf2.cell sr 0 ql).trans q0
              have q1' := (hf2.cell sr 1 ql).trans q1
              have ql' : sr < wc.heap.size := Nat.lt_of_lt_of_le ql hf2.size'
              have hS2 := HS1.out.same hf2 (Int.le_refl _)
              have HS2 := Lib.hid hS2
              clear q0 q1 q2 q3 qf
              have y1' := (hf2.cell lb _ (World.block_lt_of_cell? W1 _ y1)).trans y1
              have hfz := owns_free hS2.own rfl
              have hlb' : lb < wc.heap.size := Nat.lt_of_lt_of_le (World.block_lt_of_cell? W1 _ y1) hf2.size'
              have g7 := IntWalk.i64_in (s.n + r.n) (by omega)
              have HJ2 := Lib.hid (hS2.join HG.out HE.out hp0 hn1)
              clear hS2 y0 y1
              go_upto_region 13 with fail
              go_region
              go_wp2_with fail
              obtain ⟨j1, j2⟩ := HJ2.out
              go_roundw
              case rel => exact ⟨k + 1, r.fr + r.n, addSp l r.fr r.n, by omega, by go_num, HSN2, ⟨some ⟨lb, 0, none⟩, vcap, by rw [j2]⟩, j1.same (Fr0.refl _).drew (Int.le_refl _), hnx, by omega, by omega⟩
              case measure => simp [intOf]; omega
          · have e1 : (s.fr + s.n == r.fr) = false := by simpa using he
            have HADD := Lib.hid (addSp_new hg r.n he)
            clear he hg
            go_upto_region 12 with fail
            try rw [hW1]
            clear hW1
            generalize wr.heap.size = sr at *
            go_cut [66] (fun s wx => s = .bool false ∧ Fr0 W1 wx)
            case first =>
              go_quiet (fail)
              go_wp2_with fail
              go_meet
              exact ⟨rfl, (Fr0.refl W1).drewN _⟩
            case rest =>
              obtain ⟨rfl, hf2⟩ := hcut
              have q0' := (hf2.cell sr 0 ql).trans q0
              have q1' := (hf2.cell sr 1 ql).trans q1
              have ql' : sr < wc.heap.size := Nat.lt_of_lt_of_le ql hf2.size'
              have hS2 := HS1.out.same hf2 (Int.le_refl _)
              have HS2 := Lib.hid hS2
              clear q0 q1 q2 q3 qf
              clear y0 y1
              go_wp2_with (at_builtin; refine wpList_append_lies _ rfl _ _ _ rfl 0 68 i1 _ 2 16 hu1 hi1 ha1 ha2 ha3 rfl (by omega) _ l.length (spCells l) rfl (hS2.own.alloc _) ⟨wc.heap.size, 0, none⟩ 1 1 [.int .i64 r.fr, .int .i64 r.n] rfl rfl (World.news_of_block (cs := #[.int .i64 r.fr, .int .i64 r.n]) (t := 68) (fr := (0, 0)) (heap_alloc_new wc _)) (by simp [Value.oneCell']) (by omega) hn63 hby (by omega) (wc.heap.size + 1) (by simp) ?_; intro g cap' w1 hown1 hgrow hat hlt2)
              obtain ⟨j1, j2⟩ := HS2.out.push HADD.out hp0 hn1 hown1 hgrow hat
              go_roundw
              case rel => exact ⟨k + 1, r.fr + r.n, addSp l r.fr r.n, by omega, by go_num, HSN2, ⟨some ⟨g, 0, none⟩, cap', by simp [j2]⟩, j1, hnx, by omega, by omega⟩
              case measure => simp [intOf]; omega
    · have hls : Hid (sinceR version rs = l) := by show _ = _; rw [← HL.out, List.take_of_length_le (by omega)]
      go_wp2_with fail
      go_ret2
      refine ⟨_, rfl, f3.trans hfr, ?_, ?_⟩
      · rw [HRS.out, hls.out]; exact hS.own
      · intro k hk
        have := hS.new k hk
        have := f3.size'
        omega

end Go.Proofs.Ytbokcmkbnkncoaa

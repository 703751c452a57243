/- Filling the table of keys: what a step of the loop leaves. -/
import Derived.Test.YtgldjpldldknoaaGreatDoorRKw3
import Derived.Test.YtgldjpldldknoaaGreatDoorRKy0
import Derived.Test.YtgldjpldldknoaaGreatDoorRBof0
import Derived.Test.YtgldjpldldknoaaGreatDoorRSt5
import Derived.Test.YtgldjpldldknoaaGreatDoorRSet
import Derived.Deep.LoopGhost
import Derived.Deep.DeepCutAuto
import Derived.Test.YtgldjpldldknoaaGreatDoorRPq1
import Derived.BigQuiet
set_option linter.unusedSimpArgs false
set_option linter.unusedVariables false
namespace Go.Proofs.YtgldjpldldknoaaGreatDoor
open Go.RowKit
theorem krows_len (T : List KRow) : (T.flatMap KRow.vals).length = T.length * 3 := flat_len KRow.vals 3 T (fun _ _ => rfl)
theorem krows_at : ∀ (T : List KRow) (i : Nat) (h : i < T.length), (T.flatMap KRow.vals)[i * 3]? = some (.int .u64 T[i].key) ∧ (T.flatMap KRow.vals)[i * 3 + 1]? = some (.int .i64 T[i].lev) ∧ (T.flatMap KRow.vals)[i * 3 + 2]? = some (.bool T[i].kn)
 | [], i, h => by simp at h
 | r :: T, 0, h => by simp [KRow.vals]
 | r :: T, i + 1, h => by
  have ih := krows_at T i (by simpa using h)
  simp only [List.flatMap_cons, List.getElem_cons_succ]
  have e : ∀ k, (r.vals ++ T.flatMap KRow.vals)[k + 3]? = (T.flatMap KRow.vals)[k]? := fun k => by
   rw [List.getElem?_append_right (by simp [KRow.vals])]
   simp [KRow.vals]
  rw [show (i + 1) * 3 = i * 3 + 3 by omega, show i * 3 + 3 + 1 = i * 3 + 1 + 3 by omega, show i * 3 + 3 + 2 = i * 3 + 2 + 3 by omega, e, e, e]
  exact ih
theorem krows_set : ∀ (T : List KRow) (i : Nat) (h : i < T.length) (r : KRow), (((T.flatMap KRow.vals).set (i * 3) (.int .u64 r.key)).set (i * 3 + 1) (.int .i64 r.lev)).set (i * 3 + 2) (.bool r.kn) = (T.set i r).flatMap KRow.vals
 | [], i, h, _ => by simp at h
 | a :: T, 0, h, r => by simp [KRow.vals]
 | a :: T, i + 1, h, r => by
  have ih := krows_set T i (by simpa using h) r
  simp only [List.flatMap_cons, List.set_cons_succ]
  rw [← ih]
  have e : ∀ (l : List Value) k v, (a.vals ++ l).set (k + 3) v = a.vals ++ l.set k v := fun l k v => by
   rw [List.set_append_right _ _ (by simp [KRow.vals])]
   simp [KRow.vals]
  rw [show (i + 1) * 3 = i * 3 + 3 by omega, show i * 3 + 3 + 1 = i * 3 + 1 + 3 by omega, show i * 3 + 3 + 2 = i * 3 + 2 + 3 by omega, e, e, e]
theorem Pq.retab {S : Nat → Prop} {B : Nat} {w w' : World} {pp tp p mb : Nat} {most : Int} {L : List Ent} {T T' : List KRow} (h : Pq B w pp tp p mb most L T) (hf : Fr S w w')
    (hS : ∀ k, S k → B ≤ k ∧ ∃ cs t f, w.heap[k]? = some (Obj.cells cs t f) ∧ (t = 130 ∨ t = 208)) (hT : Tb B w' tp p T') (ho : TabOk L T') (hl : T'.length ≤ L.length + 1) : Pq B w' pp tp p mb most L T' := by
 have key : ∀ (k : Nat) (cs : Array Value) (t : TypeId) (f : Nat × Nat), w.heap[k]? = some (Obj.cells cs t f) → t ≠ 130 → t ≠ 208 → w'.heap[k]? = some (.cells cs t f) := by
  intro k cs t f hk h1 h2
  refine hf.kept hk (fun e => ?_)
  obtain ⟨_, cs', t', f', h3, h4⟩ := hS k e
  rw [hk] at h3
  cases h3
  rcases h4 with h4 | h4
  · exact h1 h4
  · exact h2 h4
 have maps : ∀ (k : Nat) (es : Array MapEntry) (n : Nat), w.heap[k]? = some (Obj.map es n) → w'.heap[k]? = some (.map es n) := by
  intro k es n hk
  refine hf.kept hk (fun e => ?_)
  obtain ⟨_, cs', t', f', h3, h4⟩ := hS k e
  rw [hk] at h3
  cases h3
 refine ⟨?_, key _ _ _ _ h.par (by decide) (by decide), h.new, hT, ho, hl, h.sok, h.dok, h.uq, Nat.le_trans h.base hf.size, h.deb.low (fun k h1 h2 => hf.block k h2 (fun e => by have := (hS k e).1; omega)), h.big⟩
 obtain ⟨sv, hS', r⟩ := h.st
 refine ⟨sv, ⟨key _ _ _ _ hS'.ptr (by decide) (by decide), maps _ _ _ hS'.mp, ?_, hS'.big⟩, r⟩
 refine ⟨hS'.own.1, ?_⟩
 rcases hS'.own.2 with h5 | ⟨g, cap, cur, h5, hb, hg, r⟩
 · exact .inl h5
 · exact .inr ⟨g, cap, cur, h5, hb, key _ _ _ _ hg (by decide) (by decide), r⟩
theorem Tb.open {B : Nat} {w : World} {tp p : Nat} {T : List KRow} (h : Tb B w tp p T) (h0 : 0 < T.length) :
    ∃ rb cap cur, B ≤ rb ∧ w.heap[tp]? = some (Obj.cells #[.pointer (some ⟨p, 0, none⟩), .slice (some ⟨rb, 0, none⟩) T.length cap] 130 (0, 0)) ∧ w.heap[rb]? = some (Obj.cells cur 208 (0, 0)) ∧
     w.ownsRow B 208 3 (.slice (some ⟨rb, 0, none⟩) T.length cap) T.length (T.flatMap KRow.vals) ∧
     ∀ (i : Nat) (hi : i < T.length), w.cell? ⟨rb, i * 3, none⟩ = some (.int .u64 T[i].key) ∧ w.cell? ⟨rb, i * 3 + 1, none⟩ = some (.int .i64 T[i].lev) ∧ w.cell? ⟨rb, i * 3 + 2, none⟩ = some (.bool T[i].kn) := by
 obtain ⟨hB, rv, h1, h2⟩ := h
 have h2' := h2
 rcases h2.2 with ⟨_, e2⟩ | ⟨g, cap, cur, e1, hb, hg, k1, k2, k3, k4⟩
 · omega
 · subst e1
   refine ⟨g, cap, cur, hb, h1, hg, h2', fun i hi => ?_⟩
   have hc := h2.cells (g := g) rfl
   obtain ⟨c0, c1, c2⟩ := krows_at T i hi
   have a0 := hc _ _ c0
   have a1 := hc _ _ c1
   have a2 := hc _ _ c2
   simp only [Addr.add_lit, Nat.zero_add] at a0 a1 a2
   exact ⟨a0, a1, a2⟩
theorem cmp_krow {L : List Ent} (hD : DOk L) {x : Int} (hk : isKnown L x) (h0 : x ≠ 0) {a la b lb : Int} (hl : (entAt L x).rule.left ≠ 0 → a = kkey L (entAt L x).rule.left ∧ la = klev L (entAt L x).rule.left) (hr : (entAt L x).rule.right ≠ 0 → b = kkey L (entAt L x).rule.right ∧ lb = klev L (entAt L x).rule.right) :
    cmpR (entAt L x).rule.kind (entAt L x).rule.letter (entAt L x).rule.left (entAt L x).rule.right (entAt L x).rule.times a la b lb = (kkey L x, klev L x) := by
 have h1 := hk.1
 unfold cmpR
 rcases hD.at x hk h0 with ⟨g1, _⟩ | ⟨g1, g2, _⟩ | ⟨g1, g2, _⟩
 · have e := kl_letter (L := L) (id := x) (by omega) g1
   rw [if_pos g1, e.1, e.2]
 · have e := kl_pair hD hk h0 g1
   obtain ⟨rfl, rfl⟩ := hl (by omega)
   obtain ⟨rfl, rfl⟩ := hr (by omega)
   rw [if_neg (by rw [g1]; decide), if_pos g1, e.1, e.2]
 · have e := kl_power hD hk h0 g1
   obtain ⟨rfl, rfl⟩ := hl (by omega)
   rw [if_neg (by rw [g1]; decide), if_neg (by rw [g1]; decide), e.1, e.2]
theorem rule_rng {L : List Ent} (hS : SOk L) (hD : DOk L) (hU : Uq L) {x : Int} (hk : isKnown L x) (h0 : x ≠ 0) :
    (1 ≤ (entAt L x).rule.kind ∧ (entAt L x).rule.kind ≤ 3) ∧ (0 ≤ (entAt L x).rule.left ∧ (entAt L x).rule.left < x) ∧ (0 ≤ (entAt L x).rule.right ∧ (entAt L x).rule.right < x) ∧ (0 ≤ (entAt L x).rule.letter ∧ (entAt L x).rule.letter < 256) ∧ (0 ≤ (entAt L x).rule.times ∧ (entAt L x).rule.times < 2305843009213693952) := by
 have h1 := hk.1
 rcases hD.at x hk h0 with ⟨g1, g2⟩ | ⟨g1, g2, g3⟩ | ⟨g1, g2, g3⟩
 · have hl := hU.ltr x hk h0 g1
   have e : (entAt L x).rule.left = 0 ∧ (entAt L x).rule.right = 0 ∧ (entAt L x).rule.times = 0 := by
    rw [g2]; exact ⟨rfl, rfl, rfl⟩
   omega
 · have e : (entAt L x).rule.letter = 0 ∧ (entAt L x).rule.times = 0 := by
     rw [g3]; exact ⟨rfl, rfl⟩
   omega
 · have e : (entAt L x).rule.letter = 0 ∧ (entAt L x).rule.right = 0 := by
     rw [g3]; exact ⟨rfl, rfl⟩
   have hp := hU.pow x hk h0 g1
   have ht := congrArg List.length (txt_pow hD hk h0 g1)
   rw [reps_len] at ht
   have hl := txt_len hD hS _ x (Nat.le_refl _) hk
   have hw := (hS.at x hk).1
   have hb := hw.len1
   have hpos : 1 ≤ (txt L (entAt L x).rule.left).length := by
    have hl2 := txt_len hD hS _ (entAt L x).rule.left (Nat.le_refl _) ⟨by omega, by have := hk.2; omega⟩
    have := ((hS.at (entAt L x).rule.left ⟨by omega, by have := hk.2; omega⟩).2.2.2 (by omega)).1
    omega
   have := Nat.mul_le_mul_left (entAt L x).rule.times.toNat hpos
   omega
theorem TabOk.rng {L : List Ent} {T : List KRow} (h : TabOk L T) (hD : DOk L) (hL : L.length ≤ 1048576) (i : Nat) (hi : i < T.length) : (0 ≤ T[i].key ∧ T[i].key < 2305843009213693951) ∧ (-1 ≤ T[i].lev ∧ T[i].lev ≤ 1099511627776) := by
 cases hk : T[i].kn with
 | false =>
  have := (h i hi).2 hk
  rw [this]
  exact ⟨⟨by decide, by decide⟩, by decide, by decide⟩
 | true =>
  obtain ⟨h1, h2, h3, h4⟩ := (h i hi).1 hk
  have k : isKnown L i := ⟨by omega, by omega⟩
  rw [h3, h4]
  have := klev_rng hD _ (i : Int) (Nat.le_refl _) k (by omega)
  exact ⟨kkey_rng hD k (by omega), this.1, by omega⟩
end Go.Proofs.YtgldjpldldknoaaGreatDoor
/- keys.row: the loop's state and its steps (plain). -/
set_option linter.unusedSimpArgs false
set_option linter.unusedVariables false
namespace Go.Proofs.YtgldjpldldknoaaGreatDoor
open Go.RowKit
theorem sto_LenQ {B : Nat} {w : World} {p mb : Nat} {most : Int} {L : List Ent} (h : Sto B w p mb most L) :
    Calls Tryz.prog 55 #[.pointer (some ⟨p, 0, none⟩)] w fun e w' => e = .returned (.int .i64 L.length) ∧ w = w' := by
 obtain ⟨sv, hS, _⟩ := h; exact st_Len hS
theorem info_krow : (Tryz.prog.info? 208).map (fun i => (i.zero, i.size, i.bytes)) = some (some (.agg #[.int .u64 0, .int .i64 0, .bool false]), 3, 24) := by kernel_rfl
structure ZrR (B : Nat) (w wx : World) (pp tp p mb : Nat) (most : Int) (L : List Ent) (R : Nat) (n : Nat) : Prop where
 ex : ∃ T, Pq B wx pp tp p mb most L T ∧ n < T.length
 kx : Kx B mb w wx
 rs : wx.heap[R]? = some (Obj.cells #[.int .u64 0, .int .i64 0, .bool false] 208 (0, 0))
 ne : ∀ rv, wx.heap[tp]? = some (Obj.cells #[.pointer (some ⟨p, 0, none⟩), rv] 130 (0, 0)) → rv.ownBlock ≠ some R
theorem wrapI {x : Int} (h0 : -9223372036854775808 ≤ x) (h1 : x ≤ 9223372036854775807) : IntKind.i64.wrap x = x := by
 simp [IntKind.wrap, IntKind.bits, IntKind.signed]
 omega
theorem Kx.tab {S : Nat → Prop} {B mb : Nat} {w w' : World} (h : Fr S w w') (hS : ∀ k : Nat, S k → B ≤ k ∧ ∃ cs t f, w.heap[k]? = some (Obj.cells cs t f) ∧ (t = 130 ∨ t = 208)) : Kx B mb w w' := by
 refine ⟨h.os, h.tape, h.output, h.size, fun k h1 h2 _ => h.block k h2 (fun e => by have := (hS k e).1; omega), fun k cs t f h1 h2 _ => h.kept h1 (fun e => ?_), fun k es n h1 _ _ => h.kept h1 (fun e => ?_)⟩
 · obtain ⟨_, cs', t', f', h3, h4⟩ := hS k e
   rw [h1] at h3
   cases h3
   rcases h4 with h4 | h4
   · subst h4; exact absurd h2 (by decide)
   · subst h4; exact absurd h2 (by decide)
 · obtain ⟨_, cs', t', f', h3, h4⟩ := hS k e
   rw [h1] at h3
   cases h3
theorem zr_same {B : Nat} {w W1 : World} {pp tp p mb : Nat} {most : Int} {L : List Ent} {T : List KRow} {ra : Option Addr} {rcap R n : Nat} (h : Pq B w pp tp p mb most L T) (F0 : Fr0 w W1) (hR : w.heap.size = R)
    (htp : w.heap[tp]? = some (Obj.cells #[.pointer (some ⟨p, 0, none⟩), .slice ra T.length rcap] 130 (0, 0))) (hrv : w.ownsRow B 208 3 (.slice ra T.length rcap) T.length (T.flatMap KRow.vals))
    (b0 : W1.heap[R]? = some (Obj.cells #[.int .u64 0, .int .i64 0, .bool false] 208 (0, 0))) (hn : n < T.length) : ZrR B w W1 pp tp p mb most L R n := by
 refine ⟨⟨T, h.kept0 F0, hn⟩, Ks.of0 F0, b0, fun rv hrv2 e => ?_⟩
 rw [F0.kept htp] at hrv2
 simp only [Option.some.injEq, Obj.cells.injEq, Array.mk.injEq, List.cons.injEq, and_true, true_and] at hrv2
 rw [← hrv2] at e
 have := (hrv.lt R e).2
 omega
theorem zr_tp {B : Nat} {w W1 w1 : World} {tp p : Nat} {T : List KRow} {ra : Option Addr} {rcap : Nat} (F0 : Fr0 w W1)
    (htp : w.heap[tp]? = some (Obj.cells #[.pointer (some ⟨p, 0, none⟩), .slice ra T.length rcap] 130 (0, 0))) (hrv : w.ownsRow B 208 3 (.slice ra T.length rcap) T.length (T.flatMap KRow.vals))
    (hg1 : W1.drew.grownBy w1 (Value.slice ra T.length rcap).ownBlock) : w1.heap[tp]? = some (Obj.cells #[.pointer (some ⟨p, 0, none⟩), .slice ra T.length rcap] 130 (0, 0)) := by
 have ltp := lt_of_block htp
 have htpne : (Value.slice ra T.length rcap).ownBlock ≠ some tp := fun e => by
  obtain ⟨cur, hc⟩ := owns_block hrv e
  exact ne_of_types hc htp (by decide) rfl
 have := hg1.block tp (by have := Fr.size F0; simp; omega) (fun e => htpne e.symm)
 rw [this]
 exact F0.kept htp
theorem zr_more {B : Nat} {w W1 w1 : World} {pp tp p mb : Nat} {most : Int} {L : List Ent} {T : List KRow} {ra : Option Addr} {rcap R n m : Nat} {v1 : Value} (h : Pq B w pp tp p mb most L T) (F0 : Fr0 w W1) (hR : w.heap.size = R)
    (htp : w.heap[tp]? = some (Obj.cells #[.pointer (some ⟨p, 0, none⟩), .slice ra T.length rcap] 130 (0, 0))) (hrv : w.ownsRow B 208 3 (.slice ra T.length rcap) T.length (T.flatMap KRow.vals))
    (b0 : W1.heap[R]? = some (Obj.cells #[.int .u64 0, .int .i64 0, .bool false] 208 (0, 0))) (hm : T.length + m = n + 1) (hn : n ≤ L.length)
    (hr1 : w1.ownsRow B 208 3 v1 (T.length + m) (T.flatMap KRow.vals ++ (Builtin.zeroCells (Value.agg #[.int .u64 0, .int .i64 0, .bool false]).cells m).toList)) (hg1 : W1.drew.grownBy w1 (Value.slice ra T.length rcap).ownBlock)
    (hl1 : v1.ownBlock = (Value.slice ra T.length rcap).ownBlock ∨ v1.ownBlock = some W1.drew.heap.size) : ZrR B w (w1.setCell ⟨tp, 1, none⟩ v1) pp tp p mb most L R n := by
 have hBt := h.tab.1
 have ltp := lt_of_block htp
 have htpne : (Value.slice ra T.length rcap).ownBlock ≠ some tp := fun e => by
  obtain ⟨cur, hc⟩ := owns_block hrv e
  exact ne_of_types hc htp (by decide) rfl
 have hRlt : ∀ k, (Value.slice ra T.length rcap).ownBlock = some k → B ≤ k ∧ k < R := fun k hk => ⟨(hrv.lt k hk).1, by have := (hrv.lt k hk).2; omega⟩
 have lR := lt_of_block b0
 have hf : Fr (fun k => k = tp ∨ (Value.slice ra T.length rcap).ownBlock = some k) W1 (w1.setCell ⟨tp, 1, none⟩ v1) :=
  Fr.setCell (Fr.grown (Fr.refl _ W1).drew hg1 (fun k hk _ => .inr hk)) _ _ (fun _ => .inl rfl)
 have hfw : Fr (fun k => k = tp ∨ (Value.slice ra T.length rcap).ownBlock = some k) w (w1.setCell ⟨tp, 1, none⟩ v1) := (Fr0.fr F0).trans hf (fun k hk _ => hk)
 have hS : ∀ w : World, w.heap[tp]? = some (Obj.cells #[.pointer (some ⟨p, 0, none⟩), .slice ra T.length rcap] 130 (0, 0)) → w.ownsRow B 208 3 (.slice ra T.length rcap) T.length (T.flatMap KRow.vals) → ∀ k, (k = tp ∨ (Value.slice ra T.length rcap).ownBlock = some k) → B ≤ k ∧ ∃ cs t f, w.heap[k]? = some (Obj.cells cs t f) ∧ (t = 130 ∨ t = 208) := by
  intro w htp hrv k hk
  rcases hk with rfl | hk
  · exact ⟨hBt, _, _, _, htp, .inl rfl⟩
  · obtain ⟨cur, hc⟩ := owns_block hrv hk
    exact ⟨(hRlt k hk).1, _, _, _, hc, .inr rfl⟩
 have hw1tp : w1.heap[tp]? = some (Obj.cells #[.pointer (some ⟨p, 0, none⟩), .slice ra T.length rcap] 130 (0, 0)) := by
  have := hg1.block tp (by have := Fr.size F0; simp; omega) (fun e => htpne e.symm)
  rw [this]
  exact F0.kept htp
 have hv1 : v1.ownBlock ≠ some tp := fun e => by
  rcases hl1 with g | g
  · rw [g] at e; exact htpne e
  · rw [g] at e
    simp at e
    have := Fr.size F0
    omega
 have hnew := setCell_block hw1tp 1 v1
 have hTl : (T ++ List.replicate m blankR).length = T.length + m := by simp
 have hTb : Tb B (w1.setCell ⟨tp, 1, none⟩ v1) tp p (T ++ List.replicate m blankR) := by
  refine ⟨hBt, v1, hnew, ?_⟩
  have := owns_set_other hr1 ⟨tp, 1, none⟩ v1 hv1
  rw [hTl, List.flatMap_append, ← zeroRows]
  exact this
 refine ⟨⟨_, (h.kept0 F0).retab hf (hS W1 (F0.kept htp) (F0.owns hrv)) hTb (h.ok.grow m) (by rw [hTl]; omega), by rw [hTl]; omega⟩, Kx.tab hfw (hS w htp hrv), ?_, ?_⟩
 · exact hf.kept b0 (by
     rintro (e | e)
     · omega
     · have := (hRlt R e).2; omega)
 · intro rv hrv2 e
   rw [hnew] at hrv2
   simp at hrv2
   rw [← hrv2] at e
   rcases hl1 with g | g
   · rw [g] at e
     have := (hRlt R e).2
     omega
   · rw [g] at e
     simp at e
     omega
def RowPost (B : Nat) (w : World) (pp tp p mb : Nat) (most : Int) (L : List Ent) (id : Int) (e : Ending) (w' : World) : Prop :=
 ∃ T', e = .returned (.tuple #[.agg #[.int .u64 (kkey L id), .int .i64 (klev L id), .bool true], .nilIface]) ∧ Pq B w' pp tp p mb most L T' ∧ Kx B mb w w'
structure RwR (B : Nat) (w wr : World) (pp tp p mb : Nat) (most : Int) (L : List Ent) (id : Int) (R : Nat) (T : List KRow) (td : List Int) (v : Value) : Prop where
 pq : Pq B wr pp tp p mb most L T
 kx : Kx B mb w wr
 rs : wr.heap[R]? = some (Obj.cells #[.int .u64 0, .int .i64 0, .bool false] 208 (0, 0))
 ne : ∀ rv, wr.heap[tp]? = some (Obj.cells #[.pointer (some ⟨p, 0, none⟩), rv] 130 (0, 0)) → rv.ownBlock ≠ some R
 tdo : wr.ownsRow w.heap.size 28 1 v td.length (td.map fun x => Value.int .i64 x)
 stk : Stk T id td
 idt : id.toNat < T.length
 top : td = [] → ∃ h : id.toNat < T.length, T[id.toNat].kn = true
 hd : ∀ x, td.head? = some x → x = id
theorem fr_set1 {w W : World} {b : Nat} (h : Fr (fun k => k = b) w W) (o : Nat) (v : Value) : Fr (fun k => k = b) w (W.setCell ⟨b, o, none⟩ v) := Fr.setCell h ⟨b, o, none⟩ v (fun _ => rfl)
theorem fr_set3 {w W : World} {b : Nat} (h : Fr (fun k => k = b) w W) (o0 o1 o2 : Nat) (v0 v1 v2 : Value) : Fr (fun k => k = b) w (((W.setCell ⟨b, o0, none⟩ v0).setCell ⟨b, o1, none⟩ v1).setCell ⟨b, o2, none⟩ v2) :=
 fr_set1 (fr_set1 (fr_set1 h o0 v0) o1 v1) o2 v2
theorem RwR.tpb {B : Nat} {w wr : World} {pp tp p mb : Nat} {most : Int} {L : List Ent} {id : Int} {R : Nat} {T : List KRow} {td : List Int} {v : Value} (h : RwR B w wr pp tp p mb most L id R T td v) :
    ∃ rb cap cur, B ≤ rb ∧ rb ≠ R ∧ wr.heap[tp]? = some (Obj.cells #[.pointer (some ⟨p, 0, none⟩), .slice (some ⟨rb, 0, none⟩) T.length cap] 130 (0, 0)) ∧ wr.heap[rb]? = some (Obj.cells cur 208 (0, 0)) ∧
     wr.ownsRow B 208 3 (.slice (some ⟨rb, 0, none⟩) T.length cap) T.length (T.flatMap KRow.vals) ∧
     ∀ (i : Nat) (hi : i < T.length), wr.cell? ⟨rb, i * 3, none⟩ = some (.int .u64 T[i].key) ∧ wr.cell? ⟨rb, i * 3 + 1, none⟩ = some (.int .i64 T[i].lev) ∧ wr.cell? ⟨rb, i * 3 + 2, none⟩ = some (.bool T[i].kn) := by
 obtain ⟨rb, cap, cur, h1, h2, h3, h4, h5⟩ := h.pq.tab.open (by have := h.idt; omega)
 exact ⟨rb, cap, cur, h1, fun e => h.ne _ h2 (by rw [e]; rfl), h2, h3, h4, h5⟩
theorem RwR.start {B : Nat} {w wx : World} {pp tp p mb : Nat} {most : Int} {L : List Ent} {R n : Nat} {T : List KRow} (hP : Pq B wx pp tp p mb most L T) (hlt : n < T.length) (hkx : Kx B mb w wx)
    (hrs : wx.heap[R]? = some (Obj.cells #[.int .u64 0, .int .i64 0, .bool false] 208 (0, 0)))
    (hne : ∀ rv, wx.heap[tp]? = some (Obj.cells #[.pointer (some ⟨p, 0, none⟩), rv] 130 (0, 0)) → rv.ownBlock ≠ some R) (hk : T[n].kn = true) :
    RwR B w wx pp tp p mb most L n R T [] (.slice none 0 0) :=
 ⟨hP, hkx, hrs, hne, World.ownsRow_nil _ _ _ _, Stk.nil _ _, by simpa using hlt, fun _ => ⟨by simpa using hlt, by simpa using hk⟩, fun x h => by simp at h⟩
theorem RwR.first {B : Nat} {w wx w4 : World} {pp tp p mb : Nat} {most : Int} {L : List Ent} {R n : Nat} {T : List KRow} {v' : Value} {o : Obj} (hP : Pq B wx pp tp p mb most L T) (hlt : n < T.length) (hkx : Kx B mb w wx) (hn : 1 ≤ n)
    (hrs : wx.heap[R]? = some (Obj.cells #[.int .u64 0, .int .i64 0, .bool false] 208 (0, 0)))
    (hne : ∀ rv, wx.heap[tp]? = some (Obj.cells #[.pointer (some ⟨p, 0, none⟩), rv] 130 (0, 0)) → rv.ownBlock ≠ some R) (hk : T[n].kn = false)
    (hO : w4.ownsRow w.heap.size 28 1 v' [(n : Int)].length ([(n : Int)].map fun x => Value.int .i64 x)) (hg : (wx.alloc o).grownBy w4 (Value.slice none 0 0).ownBlock) :
    RwR B w w4 pp tp p mb most L n R T [(n : Int)] v' := by
 have hf : Fr0 wx w4 := Fr.grown ((Fr0.refl wx).alloc o) hg (fun k hk _ => by cases hk)
 refine ⟨hP.kept0 hf, Ks.trans hkx (Ks.of0 hf), hf.kept hrs, fun rv hrv => hne rv ?_, hO, Stk.one (by omega) (fun h => by simpa using hk), by simpa using hlt, fun h => by simp at h, fun x h => by simp at h; exact h.symm⟩
 obtain ⟨_, rv0, h1, _⟩ := hP.tab
 rw [hf.kept h1] at hrv
 rw [h1]
 exact hrv
theorem RwR.push {B : Nat} {w wr W w4 : World} {pp tp p mb : Nat} {most : Int} {L : List Ent} {id : Int} {R : Nat} {T : List KRow} {td : List Int} {v v' : Value} {y : Int} {o : Obj} (h : RwR B w wr pp tp p mb most L id R T td v) (hf : Fr0 wr W) (hB : B ≤ w.heap.size)
    (hO : w4.ownsRow w.heap.size 28 1 v' (td ++ [y]).length ((td ++ [y]).map fun x => Value.int .i64 x)) (hg : (W.alloc o).grownBy w4 v.ownBlock) (hs : Stk T id (td ++ [y])) (h0 : td ≠ []) :
    RwR B w w4 pp tp p mb most L id R T (td ++ [y]) v' := by
 have hblk : ∀ k, v.ownBlock = some k → w.heap.size ≤ k ∧ ∃ cs, W.heap[k]? = some (Obj.cells cs 28 (0, 0)) := fun k hk => by
  obtain ⟨cur, hc⟩ := owns_block h.tdo hk
  exact ⟨(h.tdo.lt k hk).1, cur, hf.kept hc⟩
 have hko : Ko B wr w4 := ((Ko.of0 hf).alloc o).grown hg (fun k hk => by
  obtain ⟨h1, cs, h2⟩ := hblk k hk
  exact ⟨by omega, cs, _, _, ((Fr0.refl W).alloc o).kept h2, by decide⟩)
 have hF : Fr (fun k => v.ownBlock = some k) wr w4 := Fr.grown (Fr0.fr (hf.alloc o)) hg (fun k hk _ => hk)
 have htpk : ∀ rv, w4.heap[tp]? = some (Obj.cells #[.pointer (some ⟨p, 0, none⟩), rv] 130 (0, 0)) → wr.heap[tp]? = some (Obj.cells #[.pointer (some ⟨p, 0, none⟩), rv] 130 (0, 0)) := fun rv hrv => by
  obtain ⟨_, rv0, h1, _⟩ := h.pq.tab
  rw [hko.cells _ _ _ _ h1 (by decide)] at hrv
  rw [h1]
  exact hrv
 refine ⟨h.pq.keptO hko, Ks.fr h.kx hF (fun i h1 h2 => by have := (hblk i h2).1; omega), hko.cells _ _ _ _ h.rs (by decide), fun rv hrv => h.ne rv (htpk rv hrv), hO, hs, h.idt, fun e => by simp at e, fun x hx => ?_⟩
 cases td with
 | nil => exact absurd rfl h0
 | cons a td => exact h.hd x (by simpa using hx)
theorem RwR.pop {B : Nat} {w wr W : World} {pp tp p mb : Nat} {most : Int} {L : List Ent} {id : Int} {R : Nat} {T : List KRow} {td : List Int} {x : Int} {va : Option Addr} {vc rb cap : Nat} (h : RwR B w wr pp tp p mb most L id R T (td ++ [x]) (.slice va (td.length + 1) vc)) (hf : Fr0 wr W) (hB : B ≤ w.heap.size) (hid : isKnown L id)
    (htp : wr.heap[tp]? = some (Obj.cells #[.pointer (some ⟨p, 0, none⟩), .slice (some ⟨rb, 0, none⟩) T.length cap] 130 (0, 0))) :
    RwR B w (((W.setCell ⟨rb, x.toNat * 3, none⟩ (.int .u64 (kkey L x))).setCell ⟨rb, x.toNat * 3 + 1, none⟩ (.int .i64 (klev L x))).setCell ⟨rb, x.toNat * 3 + 2, none⟩ (.bool true)) pp tp p mb most L id R (T.set x.toNat (krow L x)) td (.slice va td.length vc) := by
 obtain ⟨rb', cap', cur, h1, h2, h3, h4, h5, h6⟩ := h.tpb
 rw [htp] at h3
 simp only [Option.some.injEq, Obj.cells.injEq, Array.mk.injEq, List.cons.injEq, Value.slice.injEq, Addr.mk.injEq, and_true, true_and] at h3
 obtain ⟨rfl, rfl⟩ := h3
 have hx := h.stk.rng x (by simp)
 have hidt := h.idt
 have hxl : x.toNat < T.length := by omega
 have hxu := h.stk.un x (by simp) hxl
 have hfw : Fr (fun k => k = rb) wr (((W.setCell ⟨rb, x.toNat * 3, none⟩ (.int .u64 (kkey L x))).setCell ⟨rb, x.toNat * 3 + 1, none⟩ (.int .i64 (klev L x))).setCell ⟨rb, x.toNat * 3 + 2, none⟩ (.bool true)) := fr_set3 (Fr0.fr hf) _ _ _ _ _ _
 have hS : ∀ k : Nat, k = rb → B ≤ k ∧ ∃ cs t f, wr.heap[k]? = some (Obj.cells cs t f) ∧ (t = 130 ∨ t = 208) := fun k e => by subst e; exact ⟨h1, _, _, _, h4, .inr rfl⟩
 have htprb : tp ≠ rb := fun e => by rw [← e] at h4; exact ne_of_types htp h4 (by decide) rfl
 have htp' := hfw.kept htp htprb
 have hk : isKnown L x := ⟨by omega, by have := hid.2; omega⟩
 have h0 : x ≠ 0 := by omega
 have hl3 := krows_len T
 have hown := owns_set_own (owns_set_own (owns_set_own (hf.owns h5) (x.toNat * 3) (.int .u64 (kkey L x)) (by omega)) (x.toNat * 3 + 1) (.int .i64 (klev L x)) (by rw [List.length_set]; omega)) (x.toNat * 3 + 2) (.bool true) (by rw [List.length_set, List.length_set]; omega)
 have e3 := krows_set T x.toNat hxl (krow L x)
 have hown' : World.ownsRow (((W.setCell ⟨rb, x.toNat * 3, none⟩ (.int .u64 (kkey L x))).setCell ⟨rb, x.toNat * 3 + 1, none⟩ (.int .i64 (klev L x))).setCell ⟨rb, x.toNat * 3 + 2, none⟩ (.bool true)) B 208 3 (.slice (some ⟨rb, 0, none⟩) T.length cap) T.length ((T.set x.toNat (krow L x)).flatMap KRow.vals) := by
  rw [← e3]; exact hown
 have hTb : Tb B (((W.setCell ⟨rb, x.toNat * 3, none⟩ (.int .u64 (kkey L x))).setCell ⟨rb, x.toNat * 3 + 1, none⟩ (.int .i64 (klev L x))).setCell ⟨rb, x.toNat * 3 + 2, none⟩ (.bool true)) tp p (T.set x.toNat (krow L x)) :=
  ⟨h.pq.tab.1, _, htp', by rw [List.length_set]; exact hown'⟩
 refine ⟨h.pq.retab hfw hS hTb (h.pq.ok.put hk h0) (by rw [List.length_set]; exact h.pq.tl), Ks.trans h.kx (Kx.tab hfw hS), hfw.kept h.rs (fun e => h2 e.symm), ?_, ?_, h.stk.pop, by rw [List.length_set]; exact hidt, ?_, ?_⟩
 · intro rv hrv e
   rw [htp'] at hrv
   simp only [Option.some.injEq, Obj.cells.injEq, Array.mk.injEq, List.cons.injEq, and_true, true_and] at hrv
   rw [← hrv] at e
   cases e
   exact h2 rfl
 · have ho := h.tdo
   rw [List.map_append] at ho
   have hva : ∃ g, va = some ⟨g, 0, none⟩ := by
    rcases ho.2 with ⟨e, _⟩ | ⟨g, cap', cur', e, _⟩
    · simp at e
    · simp only [Value.slice.injEq] at e
      exact ⟨g, e.1⟩
   obtain ⟨g, rfl⟩ := hva
   have hgrb : g ≠ rb := fun e => by
    obtain ⟨cur2, hc2⟩ := owns_block ho (k := g) rfl
    rw [e] at hc2
    exact ne_of_types hc2 h4 (by decide) rfl
   have hl1 : (td ++ [x]).length = td.length + 1 := by simp
   rw [hl1] at ho
   have := ownsRow_pop (xs := td.map fun x => Value.int .i64 x) (by simp) ho
   exact hfw.owns this (fun k hk => by
    simp [Value.ownBlock] at hk
    omega)
 · intro htd
   subst htd
   have := h.hd x (by simp)
   subst this
   exact ⟨by rw [List.length_set]; exact hidt, by rw [List.getElem_set_self]; rfl⟩
 · intro y hy
   cases td with
   | nil => simp at hy
   | cons a td => exact h.hd y (by simpa using hy)
theorem RwR.done {B : Nat} {w wr : World} {pp tp p mb : Nat} {most : Int} {L : List Ent} {id : Int} {R : Nat} {T : List KRow} {v : Value} {f : Nat → Value} (h : RwR B w wr pp tp p mb most L id R T [] v) (hB : B ≤ w.heap.size) (hR : w.heap.size = R) :
    RowPost B w pp tp p mb most L id (.returned (.tuple #[.agg #[.int .u64 (kkey L id), .int .i64 (klev L id), .bool true], .nilIface])) (((wr.setCell ⟨R, 0, none⟩ (f 0)).setCell ⟨R, 1, none⟩ (f 1)).setCell ⟨R, 2, none⟩ (f 2)) := by
 obtain ⟨rb, cap, cur, h1, h2, h3, h4, h5, h6⟩ := h.tpb
 have hfw : Fr (fun k => k = R) wr (((wr.setCell ⟨R, 0, none⟩ (f 0)).setCell ⟨R, 1, none⟩ (f 1)).setCell ⟨R, 2, none⟩ (f 2)) := fr_set3 (Fr.refl _ wr) _ _ _ _ _ _
 have htpR : tp ≠ R := fun e => by
  have := h.rs
  rw [← e] at this
  exact ne_of_types h3 this (by decide) rfl
 exact ⟨T, rfl, h.pq.retab hfw (fun k e => by subst e; exact ⟨by omega, _, _, _, h.rs, .inr rfl⟩) ⟨h.pq.tab.1, _, hfw.kept h3 htpR, hfw.owns h5 (fun k hk e => by
     simp [Value.ownBlock] at hk
     omega)⟩ h.pq.ok h.pq.tl, Ks.fr h.kx hfw (fun i h1 h2 => by omega)⟩
end Go.Proofs.YtgldjpldldknoaaGreatDoor
/- The walk of merge.sideText. -/
set_option linter.unusedSimpArgs false
set_option linter.unusedVariables false
namespace Go.Proofs.YtgldjpldldknoaaGreatDoor
open Go.RowKit
theorem Room.nx {B : Nat} {w w' : World} {p mb : Nat} {most : Int} {L L' : List Ent} {n m k : Nat} (h : Room B w p mb most L n) (hS : Sto B w' p mb most L') (hb : B ≤ w'.heap.size) (hg : Grows L L' m) (hk : m + k ≤ n) : Room B w' p mb most L' k :=
 ⟨hS, hb, hg.sok, hg.dok, by have := h.most; have := hg.len; omega, by have := h.big; have := hg.len; omega⟩
theorem owns_rd {α : Type} {vals : α → List Value} {size B base : Nat} {T : TypeId} {w : World} {a : Option Addr} {n cap : Nat} {xs : List α} (hv : ∀ x ∈ xs, (vals x).length = size) (h : w.ownsRow base T size (.slice a n cap) xs.length (xs.flatMap vals)) (h1 : T ≠ 100) (h2 : T ≠ 84) : RG vals size B w a xs := by
 obtain ⟨a', cap', e, hr⟩ := rg_of_own (B := B) hv h h1 h2
 simp only [Value.slice.injEq] at e
 obtain ⟨rfl, _, _⟩ := e
 exact hr
theorem cells7 {w : World} {b : Nat} {x0 x1 x2 x3 x4 x5 x6 : Value} {t : TypeId} (h : w.heap[b]? = some (.cells #[x0, x1, x2, x3, x4, x5, x6] t (0, 0))) :
    w.cell? ⟨b, 0, none⟩ = some x0 ∧ w.cell? ⟨b, 1, none⟩ = some x1 ∧ w.cell? ⟨b, 2, none⟩ = some x2 ∧ w.cell? ⟨b, 3, none⟩ = some x3 ∧ w.cell? ⟨b, 4, none⟩ = some x4 ∧ w.cell? ⟨b, 5, none⟩ = some x5 ∧ w.cell? ⟨b, 6, none⟩ = some x6 ∧ b < w.heap.size ∧ ∀ o, w.frozen? ⟨b, o, none⟩ = false :=
 ⟨by rw [cell_of_block h]; rfl, by rw [cell_of_block h]; rfl, by rw [cell_of_block h]; rfl, by rw [cell_of_block h]; rfl, by rw [cell_of_block h]; rfl, by rw [cell_of_block h]; rfl, by rw [cell_of_block h]; rfl, lt_of_block h, fun o => by simp [World.frozen?, h]⟩
structure Kv (S : Nat → Prop) (B mb : Nat) (w w' : World) : Prop where
 os : w'.os = w.os
 tape : w'.tape = w.tape
 output : w'.output = w.output
 size : w.heap.size ≤ w'.heap.size
 low : ∀ k : Nat, k < B → k < w.heap.size → ¬ S k → w'.heap[k]? = w.heap[k]?
 cells : ∀ (k : Nat) (cs : Array Value) (t : TypeId) (f : Nat × Nat), w.heap[k]? = some (Obj.cells cs t f) → t ≠ 100 → t ≠ 84 → ¬ S k → w'.heap[k]? = some (.cells cs t f)
 maps : ∀ (k : Nat) (es : Array MapEntry) (n : Nat), w.heap[k]? = some (Obj.map es n) → k ≠ mb → ¬ S k → w'.heap[k]? = some (.map es n)
theorem Kv.refl (S : Nat → Prop) (B mb : Nat) (w : World) : Kv S B mb w w := ⟨rfl, rfl, rfl, Nat.le_refl _, fun _ _ _ _ => rfl, fun _ _ _ _ h _ _ _ => h, fun _ _ _ h _ _ => h⟩
theorem Kv.trans {S : Nat → Prop} {B mb : Nat} {a b c : World} (h : Kv S B mb a b) (k : Kv S B mb b c) : Kv S B mb a c :=
 ⟨k.os.trans h.os, k.tape.trans h.tape, k.output.trans h.output, Nat.le_trans h.size k.size,
  fun i h1 h2 h3 => (k.low i h1 (Nat.lt_of_lt_of_le h2 h.size) h3).trans (h.low i h1 h2 h3),
  fun i cs t f h1 h2 h3 h4 => k.cells i cs t f (h.cells i cs t f h1 h2 h3 h4) h2 h3 h4, fun i es n h1 h2 h3 => k.maps i es n (h.maps i es n h1 h2 h3) h2 h3⟩
theorem Kv.of0 {S : Nat → Prop} {B mb : Nat} {w w' : World} (h : Fr0 w w') : Kv S B mb w w' :=
 ⟨h.os, h.tape, h.output, h.size, fun i _ h2 _ => h.block i h2 id, fun _ _ _ _ h1 _ _ _ => h.kept h1, fun _ _ _ h1 _ _ => h.kept h1⟩
theorem Kv.ofK {S : Nat → Prop} {B mb : Nat} {w w' : World} (h : Kp B mb w w') : Kv S B mb w w' :=
 ⟨h.os, h.tape, h.output, h.size, fun i h1 h2 _ => h.low i h1 h2, fun i cs t f h1 h2 h3 _ => h.cells i cs t f h1 h2 h3, fun i es n h1 h2 _ => h.maps i es n h1 h2⟩
theorem Kv.fr {S S' : Nat → Prop} {B mb : Nat} {w0 w w' : World} (h : Kv S B mb w0 w) (k : Fr S' w w') (hS : ∀ i, i < w0.heap.size → S' i → S i) : Kv S B mb w0 w' := by
 refine ⟨k.os.trans h.os, k.tape.trans h.tape, k.output.trans h.output, Nat.le_trans h.size k.size, ?_, ?_, ?_⟩
 · intro i h1 h2 h3
   exact (k.block i (Nat.lt_of_lt_of_le h2 h.size) (fun e => h3 (hS i h2 e))).trans (h.low i h1 h2 h3)
 · intro i cs t f h1 h2 h3 h4
   exact k.kept (h.cells i cs t f h1 h2 h3 h4) (fun e => h4 (hS i (lt_of_block h1) e))
 · intro i es n h1 h2 h3
   exact k.kept (h.maps i es n h1 h2 h3) (fun e => h3 (hS i (lt_of_block h1) e))
theorem Kv.alloc {S : Nat → Prop} {B mb : Nat} {w0 w : World} (h : Kv S B mb w0 w) (o : Obj) : Kv S B mb w0 (w.alloc o) := h.trans (Kv.of0 ((Fr0.refl w).alloc o))
theorem Kv.grown {S : Nat → Prop} {B mb : Nat} {w0 w w' : World} {row : Option Nat} (h : Kv S B mb w0 w) (hg : w.grownBy w' row) (hr : ∀ k, row = some k → w0.heap.size ≤ k ∨ S k) : Kv S B mb w0 w' :=
 h.fr (S' := fun k => row = some k) (Fr.grown (Fr.refl _ w) hg (fun k hk _ => hk)) (fun i h1 h2 => by
  rcases hr i h2 with g | g
  · omega
  · exact g)
theorem Kv.owns {S : Nat → Prop} {B mb : Nat} {w w' : World} (h : Kv S B mb w w') {base : Nat} {e : TypeId} {size n : Nat} {v : Value} {xs : List Value}
    (ho : w.ownsRow base e size v n xs) (h1 : e ≠ 100) (h2 : e ≠ 84) (hS : ∀ k, v.ownBlock = some k → ¬ S k) : w'.ownsRow base e size v n xs := by
 refine ⟨ho.1, ?_⟩
 rcases ho.2 with h5 | ⟨g, cap, cur, h5, hb, hg, r⟩
 · exact .inl h5
 · exact .inr ⟨g, cap, cur, h5, hb, h.cells _ _ _ _ hg h1 h2 (hS g (by rw [h5]; rfl)), r⟩
theorem Kv.ks {S S' : Nat → Prop} {B mb : Nat} {w w' : World} (h : Kv S B mb w w') (hS : ∀ k, k < w.heap.size → S k → S' k) : Ks S' B mb w w' :=
 ⟨h.os, h.tape, h.output, h.size, fun k h1 h2 h3 => h.low k h1 h2 (fun e => h3 (hS k h2 e)), fun k cs t f h1 h2 h3 => h.cells k cs t f h1 (tyP_no h2).2.2.1 (tyP_no h2).2.2.2 (fun e => h3 (hS k (lt_of_block h1) e)),
  fun k es n h1 h2 h3 => h.maps k es n h1 h2 (fun e => h3 (hS k (lt_of_block h1) e))⟩
structure SdR (B : Nat) (w0 wr : World) (p mb : Nat) (most : Int) (L : List Ent) (D : Nat) (t RES : List Int) (zs : List Chg) (qs : List PC) (sv lv : Value) (base k b : Nat) (tv : Value) (at_ : Int) (L' : List Ent) (ids : List Int) (ts : List (List Int)) : Prop where
 st : Sto B wr p mb most L'
 ks : Kv (fun j => sv.ownBlock = some j) B mb w0 wr
 gr : ∃ n, Grows L L' n ∧ n ≤ (k + b) * (11 * D + 1)
 lv : wr.ownsRow base 55 3 lv zs.length (zs.flatMap Chg.vals)
 tv : wr.ownsRow w0.heap.size 28 1 tv ids.length (ids.map fun x => Value.int .i64 x)
 ch : PChg L' zs qs
 tx : AllB L' ids ts
 res : ts.flatten ++ (sdT t at_ (qs.drop k)).flatten = RES
 il : ids.length ≤ 2 * k + b
 a0 : 0 ≤ at_
 wi : within t.length at_ (qs.drop k)
theorem within.drop {e f : Int} {qs : List PC} {k : Nat} (hk : k < qs.length) (h : within e f (qs.drop k)) : f ≤ qs[k].at_ ∧ 0 ≤ qs[k].n ∧ within e (qs[k].at_ + qs[k].n) (qs.drop (k + 1)) := by
 rw [List.drop_eq_getElem_cons hk] at h
 exact h
theorem SdR.kept {B : Nat} {w0 wr w1 w2 w' : World} {p mb : Nat} {most : Int} {L : List Ent} {D : Nat} {t RES : List Int} {zs : List Chg} {qs : List PC} {sv lv : Value} {base k : Nat} {tv tv' : Value} {at_ : Int} {L' L2 : List Ent} {ids : List Int} {ts : List (List Int)} {z : Int} {d : Int} {kz : Nat} {o : Obj} (h : SdR B w0 wr p mb most L D t RES zs qs sv lv base k 0 tv at_ L' ids ts) (hf : Fr0 wr w1) (hk : k < qs.length) (ha : at_ < qs[k].at_)
    (hS : Sto B w2 p mb most L2) (hK : Kp B mb w1 w2) (g : Grows L' L2 kz) (hkz : kz ≤ 11 * D + 1) (hb : BalZ L2 z (cutL t at_ (qs[k].at_ - at_)) d)
    (h1 : w'.ownsRow w0.heap.size 28 1 tv' (ids ++ [z]).length ((ids ++ [z]).map fun x => Value.int .i64 x)) (hg : (w2.alloc o).grownBy w' tv.ownBlock) :
    SdR B w0 w' p mb most L D t RES zs qs sv lv base k 1 tv' qs[k].at_ L2 (ids ++ [z]) (ts ++ [cutL t at_ (qs[k].at_ - at_)]) := by
 obtain ⟨n, hgr, hn2⟩ := h.gr
 have hr := h.res
 obtain ⟨q1, q2, q3⟩ := h.wi.drop hk
 have hK2 : Kv (fun j => sv.ownBlock = some j) B mb w0 w2 := (h.ks.trans (Kv.of0 hf)).trans (Kv.ofK hK)
 have htv := hK.owns (hf.owns h.tv) (by decide) (by decide)
 have hlv := hK.owns (hf.owns h.lv) (by decide) (by decide)
 have hF : Fr (fun j => tv.ownBlock = some j) w2 w' := Fr.grown ((Fr.refl _ w2).alloc o) hg (fun j hj _ => hj)
 refine ⟨hS.push htv (by decide) (by decide) hg, (hK2.alloc _).grown hg (fun j hj => .inl (htv.lt j hj).1), ⟨n + (11 * D + 1), hgr.trans g (by omega), ?_⟩, hF.owns hlv ?_, h1, h.ch.more g hgr.dok, (h.tx.more g hgr.dok).snoc hb, ?_, ?_, ?_, ?_⟩
 · rw [Nat.add_mul, Nat.one_mul]
   have e1 : (k + 0) * (11 * D + 1) = k * (11 * D + 1) := by rw [Nat.add_zero]
   omega
 · intro j hj e
   obtain ⟨c1, e1⟩ := owns_block hlv hj
   obtain ⟨c2, e2⟩ := owns_block htv e
   rw [e1] at e2
   cases e2
 · rw [← hr, List.drop_eq_getElem_cons hk]
   show _ ++ ((if qs[k].at_ < qs[k].at_ then _ else []) ++ (qs[k].text :: sdT t (qs[k].at_ + qs[k].n) _)).flatten = _ ++ ((if at_ < qs[k].at_ then [cutL t at_ (qs[k].at_ - at_)] else []) ++ (qs[k].text :: sdT t (qs[k].at_ + qs[k].n) _)).flatten
   rw [if_neg (by omega), if_pos ha]
   simp
 · have := h.il
   simp; omega
 · have := h.a0; omega
 · rw [List.drop_eq_getElem_cons hk]
   exact ⟨by omega, q2, q3⟩
theorem SdR.text {B : Nat} {w0 wr w2 w' : World} {p mb : Nat} {most : Int} {L : List Ent} {D : Nat} {t RES : List Int} {zs : List Chg} {qs : List PC} {sv lv : Value} {base k b : Nat} {tv tv' : Value} {at_ : Int} {L' : List Ent} {ids : List Int} {ts : List (List Int)} {o : Obj} (h : SdR B w0 wr p mb most L D t RES zs qs sv lv base k b tv at_ L' ids ts) (hb1 : b ≤ 1) (hf : Fr0 wr w2) (hk : k < qs.length) (hkz : k < zs.length) (ha : ¬ at_ < qs[k].at_)
    (h1 : w'.ownsRow w0.heap.size 28 1 tv' (ids ++ [zs[k].text]).length ((ids ++ [zs[k].text]).map fun x => Value.int .i64 x)) (hg : (w2.alloc o).grownBy w' tv.ownBlock) :
    SdR B w0 w' p mb most L D t RES zs qs sv lv base (k + 1) 0 tv' (zs[k].at_ + zs[k].n) L' (ids ++ [zs[k].text]) (ts ++ [qs[k].text]) := by
 obtain ⟨n, hgr, hn2⟩ := h.gr
 have hr := h.res
 obtain ⟨q1, q2, q3⟩ := h.wi.drop hk
 obtain ⟨e1, e2, d, hb⟩ := h.ch.get k hkz hk
 have hK2 : Kv (fun j => sv.ownBlock = some j) B mb w0 w2 := h.ks.trans (Kv.of0 hf)
 have htv := hf.owns h.tv
 have hlv := hf.owns h.lv
 have hF : Fr (fun j => tv.ownBlock = some j) w2 w' := Fr.grown ((Fr.refl _ w2).alloc o) hg (fun j hj _ => hj)
 have hm : (k + b) * (11 * D + 1) ≤ (k + 1 + 0) * (11 * D + 1) := Nat.mul_le_mul_right _ (by omega)
 refine ⟨(h.st.kept0 hf).push htv (by decide) (by decide) hg, (hK2.alloc _).grown hg (fun j hj => .inl (htv.lt j hj).1), ⟨n, hgr, by omega⟩, hF.owns hlv ?_, h1, h.ch, h.tx.snoc hb, ?_, ?_, ?_, ?_⟩
 · intro j hj e
   obtain ⟨c1, e1⟩ := owns_block hlv hj
   obtain ⟨c2, e2⟩ := owns_block htv e
   rw [e1] at e2
   cases e2
 · rw [← hr, e1, e2, List.drop_eq_getElem_cons hk]
   show _ = _ ++ ((if at_ < qs[k].at_ then [cutL t at_ (qs[k].at_ - at_)] else []) ++ (qs[k].text :: sdT t (qs[k].at_ + qs[k].n) _)).flatten
   rw [if_neg ha]
   simp
 · have := h.il
   simp; omega
 · have := h.a0; rw [e1, e2]; omega
 · rw [e1, e2]; exact q3
def SdPost (B : Nat) (w : World) (p mb : Nat) (most : Int) (L : List Ent) (sv : Value) (u : List Int) (N : Nat) (e : Ending) (w' : World) : Prop :=
 ∃ L' y d k, e = .returned (.tuple #[.int .i64 y, .nilIface]) ∧ Sto B w' p mb most L' ∧ Kv (fun j => sv.ownBlock = some j) B mb w w' ∧ Grows L L' k ∧ k ≤ N ∧ BalZ L' y u d
set_option maxRecDepth 100000 in
set_option maxHeartbeats 4000000 in
theorem mr_sideText_nil {B : Nat} {w : World} {p mb : Nat} {most : Int} {L : List Ent} {id : Int} {gv : Value} {a : Option Addr} {c N : Nat} {sv : Value} (hR : Room B w p mb most L 0) (hsv : sv = .slice a 0 c) :
    Calls Tryz.prog 53 #[.pointer (some ⟨p, 0, none⟩), .int .i64 id, gv, sv] w (SdPost B w p mb most L sv [] N) := by
 subst hsv
 have HR := Lib.hid hR
 clear hR
 go_enter Tryz.func53, Tryz.ntmps53
 go_wp2_with fail
 go_ret2
 exact ⟨L, 0, 0, 0, rfl, HR.out.st, Kv.refl _ _ _ _, Grows.refl HR.out.sok HR.out.dok, Nat.zero_le _, BalZ.zero L⟩
theorem read_chg {base : Nat} {w : World} {v : Value} {cs : List Chg} (h : w.ownsRow base 55 3 v cs.length (cs.flatMap Chg.vals)) (k : Nat) (hk : k < cs.length) : ∃ b off cap, v = .slice (some ⟨b, off, none⟩) cs.length cap ∧ b < w.heap.size ∧ w.cell? ⟨b, off + k * 3, none⟩ = some (.int .i64 cs[k].at_) ∧ w.cell? ⟨b, off + k * 3 + 1, none⟩ = some (.int .i64 cs[k].n) ∧ w.cell? ⟨b, off + k * 3 + 2, none⟩ = some (.int .i64 cs[k].text) := by
 obtain ⟨a, cap, rfl⟩ := owns_form h
 obtain ⟨b, off, rfl, lb, _, hc⟩ := owns_rd (vals := Chg.vals) (size := 3) (B := 0) (fun _ _ => rfl) h (by decide) (by decide) k hk
 exact ⟨b, off, cap, rfl, lb, by have := hc 0 _ rfl; rwa [Nat.add_zero] at this, hc 1 _ rfl, hc 2 _ rfl⟩
set_option maxRecDepth 100000 in
set_option maxHeartbeats 4000000 in
theorem mr_sideText_whole {B : Nat} {w : World} {p mb gb : Nat} {most : Int} {L : List Ent} {id f e : Int} {x0 x1 x4 x5 x6 : Value} {N base : Nat} {sv : Value} {cs : List Chg} {u : List Int} {d : Int} (hR : Room B w p mb most L 0) (hg : w.heap[gb]? = some (.cells #[x0, x1, .int .i64 f, .int .i64 e, x4, x5, x6] 73 (0, 0)))
    (hs : w.ownsRow base 55 3 sv cs.length (cs.flatMap Chg.vals)) (h0 : 0 < cs.length) (h1 : cs[0].at_ = f) (h2 : cs[0].at_ + cs[0].n = e) (hb : BalZ L cs[0].text u d) (hf : 0 ≤ f) (he : f ≤ e) (he2 : e ≤ 1000000) :
    Calls Tryz.prog 53 #[.pointer (some ⟨p, 0, none⟩), .int .i64 id, .pointer (some ⟨gb, 0, none⟩), sv] w (SdPost B w p mb most L sv u N) := by
 obtain ⟨b, off, cap, rfl, lb, c0, c1, c2⟩ := read_chg hs 0 h0
 rw [Nat.zero_mul, Nat.add_zero] at c0 c1 c2
 obtain ⟨_, _, g2, g3, _, _, _, lg, gf⟩ := cells7 hg
 have HR := Lib.hid hR
 have HB := Lib.hid hb
 have q0 : ((cs.length : Int) == 0) = false := beq_eq_false_iff_ne.2 (by omega)
 have q1 : (0 : Int) < (cs.length : Int) := by omega
 generalize hx : cs[0] = x at *
 obtain ⟨xa, xn, xt⟩ := x
 dsimp only at *
 have q2 : (xa == f) = true := beq_iff_eq.2 h1
 have q3 : (xa + xn == e) = true := beq_iff_eq.2 h2
 have q4 : 0 ≤ xa + xn := by omega
 have q5 : xa + xn ≤ 1000000 := by omega
 have q6 : IntKind.i64.wrap (xa + xn) = xa + xn := wrapI (by omega) (by omega)
 clear hR hg hs hx hb h1 h2 h0
 generalize cs.length = n at *
 go_enter Tryz.func53, Tryz.ntmps53
 go_upto_region 4 with fail
 have F1 := (Fr0.refl w).alloc (.cells #[.int .i64 xa, .int .i64 xn, .int .i64 xt] 55 (0, 0))
 go_cut [41] (fun u wx => u = .bool true ∧ Fr0 (w.alloc (.cells #[.int .i64 xa, .int .i64 xn, .int .i64 xt] 55 (0, 0))) wx)
 case first =>
  go_quiet (fail)
  go_wp2_with fail
  go_meet
  exact ⟨rfl, (Fr0.refl _).drewN _⟩
 case rest =>
 obtain ⟨rfl, hF⟩ := hcut
 rename World => W2
 obtain ⟨d0, d1, d2, _, ld⟩ := cells3 (hF.kept (alloc_at w (.cells #[.int .i64 xa, .int .i64 xn, .int .i64 xt] 55 (0, 0)) _ rfl))
 have HF := Lib.hid (F1.trans hF)
 clear hF F1 c0 c1 c2 lb g2 g3 lg gf
 go_wp2_with fail
 go_ret2
 exact ⟨L, xt, d, 0, rfl, HR.out.st.kept0 HF.out, Kv.of0 HF.out, Grows.refl HR.out.sok HR.out.dok, Nat.zero_le _, HB.out⟩
theorem sd_start {B : Nat} {w w1 w' : World} {p mb : Nat} {most : Int} {L : List Ent} {D : Nat} {t : List Int} {cs : List Chg} {ps : List PC} {sv lv : Value} {base : Nat} {f e : Int} {o : Obj} (hR : Sto B w p mb most L) (hO : SOk L) (hD : DOk L) (hF : Fr0 w w1) (hs : w.ownsRow base 55 3 sv cs.length (cs.flatMap Chg.vals)) (hP : PChg L cs ps) (hf : 0 ≤ f) (he : e ≤ t.length) (hw : within e f ps)
    (h1 : w'.ownsRow base 55 3 lv (cs ++ [(⟨e, 0, 0⟩ : Chg)]).length ((cs ++ [(⟨e, 0, 0⟩ : Chg)]).flatMap Chg.vals)) (hg : (w1.alloc o).grownBy w' sv.ownBlock) :
    SdR B w w' p mb most L D t (sdG t e f ps) (cs ++ [⟨e, 0, 0⟩]) (ps ++ [⟨e, 0, []⟩]) sv lv base 0 0 (.slice none 0 0) f L [] [] := by
 have hq : within t.length f (ps ++ [⟨e, 0, []⟩]) := by
  have : ∀ (ps : List PC) (f : Int), within e f ps → within t.length f (ps ++ [⟨e, 0, []⟩]) := by
   intro ps
   induction ps with
   | nil => intro f h; exact ⟨h, by show (0 : Int) ≤ 0; omega, by show e + 0 ≤ _; omega⟩
   | cons c r ih => intro f h; exact ⟨h.1, h.2.1, ih _ h.2.2⟩
  exact this ps f hw
 refine ⟨(hR.kept0 hF).push (hF.owns hs) (by decide) (by decide) hg, ((Kv.of0 hF).alloc _).grown hg (fun j hj => .inr hj), ⟨0, Grows.refl hO hD, by simp⟩, h1, World.ownsRow_nil _ _ _ _, hP.snoc rfl rfl (BalZ.zero L), trivial, ?_, by simp, hf, by rw [List.drop_zero]; exact hq⟩
 rw [List.drop_zero, sdT_flat]
 rfl
set_option maxRecDepth 100000 in
set_option maxHeartbeats 4000000 in
theorem mr_sideText_loop {B : Nat} {w : World} {p mb gb : Nat} {most : Int} {L : List Ent} {id f e : Int} {x0 x1 x4 x5 x6 : Value} {base : Nat} {sv : Value} {cs : List Chg} {ps : List PC} {t : List Int} {d : Int} (D : Nat) (hR : Room B w p mb most L ((cs.length + 1) * (17 * D + 3))) (hg : w.heap[gb]? = some (.cells #[x0, x1, .int .i64 f, .int .i64 e, x4, x5, x6] 73 (0, 0)))
    (hs : w.ownsRow base 55 3 sv cs.length (cs.flatMap Chg.vals)) (hbs : base ≤ w.heap.size) (h0 : 0 < cs.length) (h1 : ¬ (cs[0].at_ = f ∧ cs[0].at_ + cs[0].n = e)) (hb : BalZ L id t d) (htD : t.length < lst (D + 1)) (hP : PChg L cs ps) (hw : within e f ps) (hf : 0 ≤ f) (he2 : e ≤ t.length) (htl : t.length ≤ 1000000) (hu : (sdG t e f ps).length < lst (D + 1)) (hul : (sdG t e f ps).length ≤ 1000000) (hl : cs.length ≤ 100000) :
    Calls Tryz.prog 53 #[.pointer (some ⟨p, 0, none⟩), .int .i64 id, .pointer (some ⟨gb, 0, none⟩), sv] w (SdPost B w p mb most L sv (sdG t e f ps) ((cs.length + 1) * (17 * D + 3))) := by
 obtain ⟨b0, off0, cap0, rfl, lb, c0, c1, c2⟩ := read_chg hs 0 h0
 rw [Nat.zero_mul, Nat.add_zero] at c0 c1 c2
 obtain ⟨_, _, g2, g3, _, _, _, lg, gf⟩ := cells7 hg
 have hpl := hP.len
 have hx : f ≤ cs[0].at_ ∧ 0 ≤ cs[0].n ∧ cs[0].at_ + cs[0].n ≤ e := by
  obtain ⟨e1, e2, _⟩ := hP.get 0 h0 (by omega)
  have h0p : 0 < ps.length := by omega
  obtain ⟨w1, w2, w3⟩ := within.drop (k := 0) h0p (by rw [List.drop_zero]; exact hw)
  rw [e1, e2]
  exact ⟨w1, w2, w3.le⟩
 have HST := Lib.hid (fun w1 w' lv o (hF : Fr0 w w1) h1 h2 => sd_start (D := D) (w1 := w1) (w' := w') (lv := lv) (o := o) hR.st hR.sok hR.dok hF hs hP hf he2 hw h1 h2)
 have HR := Lib.hid hR
 have HB := Lib.hid hb
 have HS := Lib.hid hs
 have HG := Lib.hid hg
 have HTD := Lib.hid htD
 have HU := Lib.hid hu
 have hZL : Hid ((cs ++ [(⟨e, 0, 0⟩ : Chg)]).length = cs.length + 1) := by show _ = _; simp
 have hQL : Hid ((ps ++ [(⟨e, 0, []⟩ : PC)]).length = cs.length + 1) := by show _ = _; rw [List.length_append, hpl]; rfl
 have HIN : Hid (∀ k (hk : k < (cs ++ [(⟨e, 0, 0⟩ : Chg)]).length), True) := fun _ _ => trivial
 generalize (sdG t e f ps) = RES at *
 have q0 : ((cs.length : Int) == 0) = false := beq_eq_false_iff_ne.2 (by omega)
 have q1 : (0 : Int) < (cs.length : Int) := by omega
 generalize hxx : cs[0] = x at *
 obtain ⟨xa, xn, xt⟩ := x
 dsimp only at *
 obtain ⟨x1', x2', x3'⟩ := hx
 have q4 : 0 ≤ xa + xn := by omega
 have q5 : xa + xn ≤ 1000000 := by omega
 have q6 : IntKind.i64.wrap (xa + xn) = xa + xn := wrapI (by omega) (by omega)
 clear hR hg hs hxx hb hP hw hu htD hpl HIN
 go_enter Tryz.func53, Tryz.ntmps53
 go_upto_region 4 with fail
 have F1 := (Fr0.refl w).alloc (.cells #[.int .i64 xa, .int .i64 xn, .int .i64 xt] 55 (0, 0))
 go_cut [41] (fun u wx => u = .bool false ∧ Fr0 (w.alloc (.cells #[.int .i64 xa, .int .i64 xn, .int .i64 xt] 55 (0, 0))) wx)
 case first =>
  clear HR HB HS HG HTD HU HST hZL hQL
  by_cases ha : xa = f
  · have q2 : (xa == f) = true := beq_iff_eq.2 ha
    have q3 : (xa + xn == e) = false := beq_eq_false_iff_ne.2 (fun h => h1 ⟨ha, h⟩)
    clear ha h1
    go_quiet (fail)
    go_wp2_with fail
    go_meet
    exact ⟨rfl, (Fr0.refl _).drewN _⟩
  · have q2 : (xa == f) = false := beq_eq_false_iff_ne.2 ha
    clear ha h1
    go_quiet (fail)
    go_wp2_with fail
    go_meet
    exact ⟨rfl, (Fr0.refl _).drewN _⟩
 case rest =>
 obtain ⟨rfl, hF⟩ := hcut
 rename World => W2
 have hF2 := F1.trans hF
 have hs2 := Fr.size hF2
 have HST2 := Lib.hid (fun w' lv o h1 h2 => HST.out W2 w' lv o hF2 h1 h2)
 have HS2 := Lib.hid (hF2.owns HS.out)
 obtain ⟨_, _, g2', g3', _, _, _, lg', gf'⟩ := cells7 (hF2.kept HG.out)
 have hbs2 : base ≤ W2.heap.size := by omega
 clear hF F1 hF2 c0 c1 c2 lb g2 g3 lg gf HST HS h1 x1' x2' x3' q4 q5 q6
 have hl2 : cs.length ≤ 1000000 := by omega
 go_wp2_with (at_builtin; refine wpList_pushG (vals := Chg.vals) rt_chg rfl _ _ rfl base _ cs rfl HS2.out hbs2 55 ⟨e, 0, 0⟩ #[.int .i64 e, .int .i64 0, .int .i64 0] rfl rfl (by simp [Chg.vals, Value.oneCell']) 1 _ rfl rfl (by omega) hl2 ?_; intro v1 w1 hO1 hg1 hat1; obtain ⟨za, zcap, rfl⟩ := owns_form hO1; have HC0 := Lib.hid (HST2.out _ _ _ hO1 hg1); clear hO1 hg1 hat1; rw [hZL.out]; have hzl := hZL.out; have hql := hQL.out; generalize hzs : cs ++ [(⟨e, 0, 0⟩ : Chg)] = zs at *; generalize ps ++ [(⟨e, 0, []⟩ : PC)] = qs at *; clear hzs)
 clear HST2 HS2 hZL hQL lg' gf' g2' g3' hbs2 q0 q1
 go_loopg [11, 12, 57] zs.length (fun gk tv av i wr => ∃ (k : Nat) (at_ : Int) (L' : List Ent) (ids : List Int) (ts : List (List Int)), k + gk = zs.length ∧ i = .int .i64 k ∧ av = .int .i64 at_ ∧ SdR B w wr p mb most L D t RES zs qs (.slice (some ⟨b0, off0, none⟩) cs.length cap0) (.slice za zs.length zcap) base k 0 tv at_ L' ids ts)
 case atStart => exact ⟨0, f, L, [], [], by omega, rfl, rfl, HC0.out⟩
 case round =>
  obtain ⟨k, at_, L', ids, ts, hk, rfl, rfl, hr⟩ := hrel
  have hgk : gk + k = zs.length := by omega
  clear HC0 hk
  obtain ⟨n, hgr, hn⟩ := hr.gr
  rw [Nat.add_zero] at hn
  have a0 := hr.a0
  have hbw : B ≤ wr.heap.size := Nat.le_trans HR.out.base hr.ks.size
  have hsz : w.heap.size ≤ wr.heap.size := hr.ks.size
  have hil := hr.il
  have hbz := hgr.balz HR.out.dok HB.out
  by_cases hlt : k < zs.length
  · obtain ⟨b, off, cap', hv, lb, c0, c1, c2⟩ := read_chg hr.lv k hlt
    simp only [Value.slice.injEq, true_and] at hv
    obtain ⟨rfl, rfl⟩ := hv
    have hlq : k < qs.length := by omega
    obtain ⟨w1, w2, w3⟩ := hr.wi.drop hlq
    obtain ⟨e1, e2, _⟩ := hr.ch.get k hlt hlq
    have w4 := w3.le
    have m1 : (k + 1) * (11 * D + 1) ≤ (cs.length + 1) * (11 * D + 1) := Nat.mul_le_mul_right _ (by omega)
    have m2 : (cs.length + 1) * (17 * D + 3) = (cs.length + 1) * (11 * D + 1) + (cs.length + 1) * (6 * D + 2) := by rw [← Nat.mul_add]; congr 1; omega
    have m3 : (k + 1) * (11 * D + 1) = k * (11 * D + 1) + (11 * D + 1) := by rw [Nat.add_mul, Nat.one_mul]
    obtain ⟨hd0, hd1⟩ := hbz.deep hgr.dok hgr.sok HTD.out
    by_cases hat : at_ < qs[k].at_
    · have hroom : Room B wr p mb most L' (11 * d.toNat + 1) := HR.out.nx hr.st hbw hgr (by omega)
      have CX := Lib.hid (fun W (hW : Fr0 wr W) => spl_Section (f := at_) (n := qs[k].at_ - at_) (hroom.kept0 hW) hbz a0 (by omega) (by omega))
      have HK := Lib.hid (fun w1 w2 w' L2 z kz dz tv' o hf hS hK g hkz hb h1 hg => hr.kept (w1 := w1) (w2 := w2) (w' := w') (L2 := L2) (z := z) (kz := kz) (d := dz) (tv' := tv') (o := o) hf hlq hat hS hK g hkz hb h1 hg)
      have HTX : Hid (∀ w5 w' tv tv' L2 ids ts o (h : SdR B w w5 p mb most L D t RES zs qs (.slice (some ⟨b0, off0, none⟩) cs.length cap0) (.slice (some ⟨b, off, none⟩) zs.length zcap) base k 1 tv qs[k].at_ L2 ids ts), w'.ownsRow w.heap.size 28 1 tv' (ids ++ [zs[k].text]).length ((ids ++ [zs[k].text]).map fun x => Value.int .i64 x) → (w5.alloc o).grownBy w' tv.ownBlock → SdR B w w' p mb most L D t RES zs qs (.slice (some ⟨b0, off0, none⟩) cs.length cap0) (.slice (some ⟨b, off, none⟩) zs.length zcap) base (k + 1) 0 tv' (zs[k].at_ + zs[k].n) L2 (ids ++ [zs[k].text]) (ts ++ [qs[k].text])) := fun w5 w' tv tv' L2 ids ts o h h1 hg => h.text (by omega) (Fr0.refl _) hlq hlt (by omega) h1 hg
      have HKZ : Hid (11 * d.toNat + 1 ≤ 11 * D + 1) := by show _ ≤ _; omega
      have HRR := Lib.hid hr
      have hatz : at_ < zs[k].at_ := by omega
      have hn0 : 0 ≤ zs[k].n := by omega
      have hup : zs[k].at_ + zs[k].n ≤ 1000000 := by omega
      rw [← e1] at CX HK HTX
      generalize hz : zs[k] = z at *
      obtain ⟨xa, xn, xt⟩ := z
      dsimp only at *
      generalize qs[k] = q at *
      have s1 : 0 ≤ xa + xn := by omega
      have s2 : 0 ≤ xa - at_ := by omega
      clear hr hn hgr hbz hroom hlq w1 w2 w3 w4 e1 e2 m1 m2 m3 hd0 hd1 hz hat
      go_wp2_with fail
      have hf1 := (Fr0.refl wr).alloc (.cells #[.int .i64 xa, .int .i64 xn, .int .i64 xt] 55 (0, 0))
      refine (CX.out _ hf1).mono ?_
      rintro e w3 ⟨L2, z, dz, kz, rfl, hS2, hK2, g2, bz, hz⟩
      have hr3 := hK2.cells _ _ _ _ (alloc_at wr (.cells #[.int .i64 xa, .int .i64 xn, .int .i64 xt] 55 (0, 0)) _ rfl) (by decide) (by decide)
      have htv := hK2.owns (hf1.owns HRR.out.tv) (by decide) (by decide)
      have hbs3 : w.heap.size ≤ w3.heap.size := Nat.le_trans hsz (Nat.le_trans hf1.size hK2.size)
      have HN := Lib.hid (fun w' tv' o h1 hg => HK.out _ _ w' L2 z kz dz tv' o hf1 hS2 hK2 g2 (by have := HKZ.out; have := hz.2.2; omega) bz h1 hg)
      have hnb : u11.ownBlock ≠ some wr.heap.size := fun h => by have := (HRR.out.tv.lt _ h).2; omega
      have HR3 := Lib.hid hr3
      have hil2 : ids.length ≤ 1000000 := by omega
      obtain ⟨d0, d1, d2, _, ld⟩ := cells3 hr3
      clear hS2 hK2 g2 bz hz hf1 CX HK hr3
      go_upto_region 16 with (at_builtin; refine wpList_pushR rt_id rfl _ _ rfl w.heap.size _ ids rfl htv hbs3 28 z 1 _ rfl rfl hil2 ?_; intro v' w4 hO4 hg4 hat4)
      have HN4 := Lib.hid (HN.out _ _ _ hO4 hg4)
      have hr4 : w4.heap[wr.heap.size]? = some (.cells #[.int .i64 xa, .int .i64 xn, .int .i64 xt] 55 (0, 0)) := (hg4.block _ (by simp; omega) (fun e => hnb e.symm)).trans ((alloc_lt _ _ _ ld).trans HR3.out)
      have HR4 := Lib.hid hr4
      have hnb4 : v'.ownBlock ≠ some wr.heap.size := fun h => by
       rcases hat4 with e | e
       · exact hnb (e.symm.trans h)
       · have := Option.some.inj (e.symm.trans h); omega
      have hbs4 : w.heap.size ≤ w4.heap.size := HN4.out.ks.size
      have hil3 : (ids ++ [z]).length ≤ 1000000 := by have := HN4.out.il; omega
      clear d0 d1 d2 ld hg4 hat4 htv hnb HN HR3 hbs3 hil2
      obtain ⟨d0, d1, d2, _, ld⟩ := cells3 hr4
      clear hr4
      go_wp2_with (at_builtin; refine wpList_pushR rt_id rfl _ _ rfl w.heap.size _ (ids ++ [z]) rfl hO4 hbs4 28 xt 1 _ rfl rfl hil3 ?_; intro v5 w5 hO5 hg5 hat5; (have hr5 : w5.heap[wr.heap.size]? = _ := (hg5.block _ (by simp; omega) (fun e => hnb4 e.symm)).trans ((alloc_lt _ _ _ ld).trans HR4.out)); obtain ⟨j0, j1, j2, _, l4⟩ := cells3 hr5; clear hr5)
      have HX := HTX.out _ _ _ _ _ _ _ _ HN4.out hO5 hg5
      go_roundg (gk - 1)
      case measure => omega
      case rel => exact ⟨k + 1, xa + xn, L2, _, _, by omega, by go_num, by go_num, HX⟩
    · have HTX : Hid (∀ w' tv' o, w'.ownsRow w.heap.size 28 1 tv' (ids ++ [zs[k].text]).length ((ids ++ [zs[k].text]).map fun x => Value.int .i64 x) → ((wr.alloc (.cells #[.int .i64 zs[k].at_, .int .i64 zs[k].n, .int .i64 zs[k].text] 55 (0, 0))).alloc o).grownBy w' u11.ownBlock → SdR B w w' p mb most L D t RES zs qs (.slice (some ⟨b0, off0, none⟩) cs.length cap0) (.slice (some ⟨b, off, none⟩) zs.length zcap) base (k + 1) 0 tv' (zs[k].at_ + zs[k].n) L' (ids ++ [zs[k].text]) (ts ++ [qs[k].text])) := fun w' tv' o h1 hg => hr.text (Nat.zero_le 1) ((Fr0.refl wr).alloc _) hlq hlt hat h1 hg
      have HRR := Lib.hid hr
      have hatz : ¬ at_ < zs[k].at_ := by omega
      have hn0 : 0 ≤ zs[k].n := by omega
      have hup : zs[k].at_ + zs[k].n ≤ 1000000 := by omega
      have s3 : 0 ≤ zs[k].at_ := by omega
      generalize hz : zs[k] = z at *
      obtain ⟨xa, xn, xt⟩ := z
      dsimp only at *
      generalize qs[k] = q at *
      have s1 : 0 ≤ xa + xn := by omega
      have hil2 : ids.length ≤ 1000000 := by omega
      have htv := ((Fr0.refl wr).alloc (.cells #[.int .i64 xa, .int .i64 xn, .int .i64 xt] 55 (0, 0))).owns HRR.out.tv
      have hbs3 : w.heap.size ≤ (wr.alloc (.cells #[.int .i64 xa, .int .i64 xn, .int .i64 xt] 55 (0, 0))).heap.size := by simp; omega
      have hnb : u11.ownBlock ≠ some wr.heap.size := fun h => by have := (HRR.out.tv.lt _ h).2; omega
      have hr3 : (wr.alloc (.cells #[.int .i64 xa, .int .i64 xn, .int .i64 xt] 55 (0, 0))).heap[wr.heap.size]? = _ := alloc_at wr _ _ rfl
      have HR3 := Lib.hid hr3
      have hq1 : decide (at_ < xa) = false := decide_eq_false hatz
      clear hr hn hgr hbz hlq w1 w2 w3 w4 e1 e2 m1 m2 m3 hd0 hd1 hz hat hr3
      obtain ⟨d0, d1, d2, _, ld⟩ := cells3 HR3.out
      go_upto_region 16 with fail
      generalize wr.alloc (.cells #[.int .i64 xa, .int .i64 xn, .int .i64 xt] 55 (0, 0)) = W1 at *
      go_wp2_with (at_builtin; refine wpList_pushR rt_id rfl _ _ rfl w.heap.size _ ids rfl htv hbs3 28 xt 1 _ rfl rfl hil2 ?_; intro v5 w5 hO5 hg5 hat5; (have hr5 : w5.heap[wr.heap.size]? = _ := (hg5.block _ (by simp; omega) (fun e => hnb e.symm)).trans ((alloc_lt _ _ _ ld).trans HR3.out)); obtain ⟨j0, j1, j2, _, l4⟩ := cells3 hr5; clear hr5)
      have HX := HTX.out _ _ _ hO5 hg5
      go_roundg (gk - 1)
      case measure => omega
      case rel => exact ⟨k + 1, xa + xn, L', _, _, by omega, by go_num, by go_num, HX⟩
  · have hkz : k = zs.length := by omega
    have hres := hr.res
    have hkq : qs.length ≤ k := by omega
    rw [List.drop_of_length_le hkq] at hres
    have hts : ts.flatten = RES := by rw [← hres]; simp [sdT]
    have m1 : k * (11 * D + 1) + (2 * k) * (3 * D + 1) = (cs.length + 1) * (17 * D + 3) := by
     have e : k = cs.length + 1 := by omega
     rw [e, Nat.mul_comm 2, Nat.mul_assoc, ← Nat.mul_add]
     congr 1
     omega
    have m2 : ids.length * (3 * D + 1) ≤ (2 * k) * (3 * D + 1) := Nat.mul_le_mul_right _ (by omega)
    have hroom : Room B wr p mb most L' (ids.length * (3 * D + 1)) := HR.out.nx hr.st hbw hgr (by omega)
    obtain ⟨ta, tcap, rfl, hIs⟩ := ints_of_own hr.tv (by decide) (by decide)
    have CC := Lib.hid (bal_Concat (cap := tcap) D hroom hIs hr.tx (by omega) (by rw [hts]; omega) (by rw [hts]; exact HU.out))
    rw [hts] at CC
    have HKS := Lib.hid hr.ks
    have HGR := Lib.hid hgr
    have HMM : Hid (n + ids.length * (3 * D + 1) ≤ (cs.length + 1) * (17 * D + 3)) := by show _ ≤ _; omega
    clear hr hn hgr hbz hres hkq hts m1 m2 hroom hIs HR HB HG HTD HU
    go_wp2_with fail
    refine CC.out.mono ?_
    rintro e2 w5 ⟨L5, y, dy, ky, rfl, hS5, hK5, g5, b5, hb5⟩
    go_wp2_with fail
    go_ret2
    exact ⟨L5, y, dy, n + ky, rfl, hS5, HKS.out.trans (Kv.ofK hK5), HGR.out.trans g5 (Nat.le_refl _), by have := HMM.out; have := hb5.2; omega, b5⟩
end Go.Proofs.YtgldjpldldknoaaGreatDoor

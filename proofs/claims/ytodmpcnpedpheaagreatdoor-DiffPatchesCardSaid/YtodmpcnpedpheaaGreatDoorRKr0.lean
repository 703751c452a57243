/- Filling the table of keys: what a step of the loop leaves. -/
import Derived.Test.YtodmpcnpedpheaaGreatDoorRKw3
import Derived.Test.YtodmpcnpedpheaaGreatDoorRAzr
set_option linter.unusedSimpArgs false
set_option linter.unusedVariables false
namespace Go.Proofs.YtodmpcnpedpheaaGreatDoor
open Go.RowKit

theorem krows_len (T : List KRow) : (T.flatMap KRow.vals).length = T.length * 3 := flat_len KRow.vals 3 T (fun _ _ => rfl)

theorem krows_at : ∀ (T : List KRow) (i : Nat) (h : i < T.length), (T.flatMap KRow.vals)[i * 3]? = some (.int .u64 T[i].key) ∧ (T.flatMap KRow.vals)[i * 3 + 1]? = some (.int .i64 T[i].lev) ∧ (T.flatMap KRow.vals)[i * 3 + 2]? = some (.bool T[i].kn)
  | [], i, h => by simp at h
  | r :: T, 0, h => by simp [KRow.vals]
  | r :: T, i + 1, h => by
    have ih := krows_at T i (by simpa using h)
    simp only [List.flatMap_cons, List.getElem_cons_succ]
    have e : ∀ k, (r.vals ++ T.flatMap KRow.vals)[k + 3]? = (T.flatMap KRow.vals)[k]? := fun k => by
      rw [List.getElem?_append_right (by simp [KRow.vals])]
      simp [KRow.vals]
    rw [show (i + 1) * 3 = i * 3 + 3 by omega, show i * 3 + 3 + 1 = i * 3 + 1 + 3 by omega, show i * 3 + 3 + 2 = i * 3 + 2 + 3 by omega, e, e, e]
    exact ih

theorem krows_set : ∀ (T : List KRow) (i : Nat) (h : i < T.length) (r : KRow), (((T.flatMap KRow.vals).set (i * 3) (.int .u64 r.key)).set (i * 3 + 1) (.int .i64 r.lev)).set (i * 3 + 2) (.bool r.kn) = (T.set i r).flatMap KRow.vals
  | [], i, h, _ => by simp at h
  | a :: T, 0, h, r => by simp [KRow.vals]
  | a :: T, i + 1, h, r => by
    have ih := krows_set T i (by simpa using h) r
    simp only [List.flatMap_cons, List.set_cons_succ]
    rw [← ih]
    have e : ∀ (l : List Value) k v, (a.vals ++ l).set (k + 3) v = a.vals ++ l.set k v := fun l k v => by
      rw [List.set_append_right _ _ (by simp [KRow.vals])]
      simp [KRow.vals]
    rw [show (i + 1) * 3 = i * 3 + 3 by omega, show i * 3 + 3 + 1 = i * 3 + 1 + 3 by omega, show i * 3 + 3 + 2 = i * 3 + 2 + 3 by omega, e, e, e]

/-- The table behind a change of its own blocks. -/
theorem Pq.retab {S : Nat → Prop} {B : Nat} {w w' : World} {pp tp p mb : Nat} {most : Int} {L : List Ent} {T T' : List KRow} (h : Pq B w pp tp p mb most L T) (hf : Fr S w w')
    (hS : ∀ k, S k → B ≤ k ∧ ∃ cs t f, w.heap[k]? = some (Obj.cells cs t f) ∧ (t = 120 ∨ t = 189)) (hT : Tb B w' tp p T') (ho : TabOk L T') (hl : T'.length ≤ L.length + 1) : Pq B w' pp tp p mb most L T' := by
  have key : ∀ (k : Nat) (cs : Array Value) (t : TypeId) (f : Nat × Nat), w.heap[k]? = some (Obj.cells cs t f) → t ≠ 120 → t ≠ 189 → w'.heap[k]? = some (.cells cs t f) := by
    intro k cs t f hk h1 h2
    refine hf.kept hk (fun e => ?_)
    obtain ⟨_, cs', t', f', h3, h4⟩ := hS k e
    rw [hk] at h3
    cases h3
    rcases h4 with h4 | h4
    · exact h1 h4
    · exact h2 h4
  have maps : ∀ (k : Nat) (es : Array MapEntry) (n : Nat), w.heap[k]? = some (Obj.map es n) → w'.heap[k]? = some (.map es n) := by
    intro k es n hk
    refine hf.kept hk (fun e => ?_)
    obtain ⟨_, cs', t', f', h3, h4⟩ := hS k e
    rw [hk] at h3
    cases h3
  refine ⟨?_, key _ _ _ _ h.par (by decide) (by decide), h.new, hT, ho, hl, h.sok, h.dok, h.uq, Nat.le_trans h.base hf.size, h.deb.low (fun k h1 h2 => hf.block k h2 (fun e => by have := (hS k e).1; omega)), h.big⟩
  obtain ⟨sv, hS', r⟩ := h.st
  refine ⟨sv, ⟨key _ _ _ _ hS'.ptr (by decide) (by decide), maps _ _ _ hS'.mp, ?_, hS'.big⟩, r⟩
  refine ⟨hS'.own.1, ?_⟩
  rcases hS'.own.2 with h5 | ⟨g, cap, cur, h5, hb, hg, r⟩
  · exact .inl h5
  · exact .inr ⟨g, cap, cur, h5, hb, key _ _ _ _ hg (by decide) (by decide), r⟩

/-- The rows of a table that has some. -/
theorem Tb.open {B : Nat} {w : World} {tp p : Nat} {T : List KRow} (h : Tb B w tp p T) (h0 : 0 < T.length) :
    ∃ rb cap cur, B ≤ rb ∧ w.heap[tp]? = some (Obj.cells #[.pointer (some ⟨p, 0, none⟩), .slice (some ⟨rb, 0, none⟩) T.length cap] 120 (0, 0)) ∧ w.heap[rb]? = some (Obj.cells cur 189 (0, 0)) ∧
      w.ownsRow B 189 3 (.slice (some ⟨rb, 0, none⟩) T.length cap) T.length (T.flatMap KRow.vals) ∧
      ∀ (i : Nat) (hi : i < T.length), w.cell? ⟨rb, i * 3, none⟩ = some (.int .u64 T[i].key) ∧ w.cell? ⟨rb, i * 3 + 1, none⟩ = some (.int .i64 T[i].lev) ∧ w.cell? ⟨rb, i * 3 + 2, none⟩ = some (.bool T[i].kn) := by
  obtain ⟨hB, rv, h1, h2⟩ := h
  have h2' := h2
  rcases h2.2 with ⟨_, e2⟩ | ⟨g, cap, cur, e1, hb, hg, k1, k2, k3, k4⟩
  · omega
  · subst e1
    refine ⟨g, cap, cur, hb, h1, hg, h2', fun i hi => ?_⟩
    have hc := h2.cells (g := g) rfl
    obtain ⟨c0, c1, c2⟩ := krows_at T i hi
    have a0 := hc _ _ c0
    have a1 := hc _ _ c1
    have a2 := hc _ _ c2
    simp only [Addr.add_lit, Nat.zero_add] at a0 a1 a2
    exact ⟨a0, a1, a2⟩

/-- What compute answers is the rule's row. -/
theorem cmp_krow {L : List Ent} (hD : DOk L) {x : Int} (hk : isKnown L x) (h0 : x ≠ 0) {a la b lb : Int} (hl : (entAt L x).rule.left ≠ 0 → a = kkey L (entAt L x).rule.left ∧ la = klev L (entAt L x).rule.left) (hr : (entAt L x).rule.right ≠ 0 → b = kkey L (entAt L x).rule.right ∧ lb = klev L (entAt L x).rule.right) :
    cmpR (entAt L x).rule.kind (entAt L x).rule.letter (entAt L x).rule.left (entAt L x).rule.right (entAt L x).rule.times a la b lb = (kkey L x, klev L x) := by
  have h1 := hk.1
  unfold cmpR
  rcases hD.at x hk h0 with ⟨g1, _⟩ | ⟨g1, g2, _⟩ | ⟨g1, g2, _⟩
  · have e := kl_letter (L := L) (id := x) (by omega) g1
    rw [if_pos g1, e.1, e.2]
  · have e := kl_pair hD hk h0 g1
    obtain ⟨rfl, rfl⟩ := hl (by omega)
    obtain ⟨rfl, rfl⟩ := hr (by omega)
    rw [if_neg (by rw [g1]; decide), if_pos g1, e.1, e.2]
  · have e := kl_power hD hk h0 g1
    obtain ⟨rfl, rfl⟩ := hl (by omega)
    rw [if_neg (by rw [g1]; decide), if_neg (by rw [g1]; decide), e.1, e.2]

/-- A rule's kind, references, letter and times. -/
theorem rule_rng {L : List Ent} (hS : SOk L) (hD : DOk L) (hU : Uq L) {x : Int} (hk : isKnown L x) (h0 : x ≠ 0) :
    (1 ≤ (entAt L x).rule.kind ∧ (entAt L x).rule.kind ≤ 3) ∧ (0 ≤ (entAt L x).rule.left ∧ (entAt L x).rule.left < x) ∧ (0 ≤ (entAt L x).rule.right ∧ (entAt L x).rule.right < x) ∧ (0 ≤ (entAt L x).rule.letter ∧ (entAt L x).rule.letter < 256) ∧ (0 ≤ (entAt L x).rule.times ∧ (entAt L x).rule.times < 2305843009213693952) := by
  have h1 := hk.1
  rcases hD.at x hk h0 with ⟨g1, g2⟩ | ⟨g1, g2, g3⟩ | ⟨g1, g2, g3⟩
  · have hl := hU.ltr x hk h0 g1
    have e : (entAt L x).rule.left = 0 ∧ (entAt L x).rule.right = 0 ∧ (entAt L x).rule.times = 0 := by
      rw [g2]; exact ⟨rfl, rfl, rfl⟩
    omega
  · have e : (entAt L x).rule.letter = 0 ∧ (entAt L x).rule.times = 0 := by
      rw [g3]; exact ⟨rfl, rfl⟩
    omega
  · have e : (entAt L x).rule.letter = 0 ∧ (entAt L x).rule.right = 0 := by
      rw [g3]; exact ⟨rfl, rfl⟩
    have hp := hU.pow x hk h0 g1
    have ht := congrArg List.length (txt_pow hD hk h0 g1)
    rw [reps_len] at ht
    have hl := txt_len hD hS _ x (Nat.le_refl _) hk
    have hw := (hS.at x hk).1
    have hb := hw.len1
    have hpos : 1 ≤ (txt L (entAt L x).rule.left).length := by
      have hl2 := txt_len hD hS _ (entAt L x).rule.left (Nat.le_refl _) ⟨by omega, by have := hk.2; omega⟩
      have := ((hS.at (entAt L x).rule.left ⟨by omega, by have := hk.2; omega⟩).2.2.2 (by omega)).1
      omega
    have := Nat.mul_le_mul_left (entAt L x).rule.times.toNat hpos
    omega

theorem TabOk.rng {L : List Ent} {T : List KRow} (h : TabOk L T) (hD : DOk L) (hL : L.length ≤ 1048576) (i : Nat) (hi : i < T.length) : (0 ≤ T[i].key ∧ T[i].key < 2305843009213693951) ∧ (-1 ≤ T[i].lev ∧ T[i].lev ≤ 1099511627776) := by
  cases hk : T[i].kn with
  | false =>
    have := (h i hi).2 hk
    rw [this]
    exact ⟨⟨by decide, by decide⟩, by decide, by decide⟩
  | true =>
    obtain ⟨h1, h2, h3, h4⟩ := (h i hi).1 hk
    have k : isKnown L i := ⟨by omega, by omega⟩
    rw [h3, h4]
    have := klev_rng hD _ (i : Int) (Nat.le_refl _) k (by omega)
    exact ⟨kkey_rng hD k (by omega), this.1, by omega⟩

end Go.Proofs.YtodmpcnpedpheaaGreatDoor

/- keys.row: the loop's state and its steps (plain). -/
set_option linter.unusedSimpArgs false
set_option linter.unusedVariables false
namespace Go.Proofs.YtodmpcnpedpheaaGreatDoor
open Go.RowKit

theorem sto_LenQ {B : Nat} {w : World} {p mb : Nat} {most : Int} {L : List Ent} (h : Sto B w p mb most L) :
    Calls Tryz.prog 117 #[.pointer (some ⟨p, 0, none⟩)] w fun e w' => e = .returned (.int .i64 L.length) ∧ w = w' := by
  obtain ⟨sv, hS, _⟩ := h; exact st_Len hS

theorem info_krow : (Tryz.prog.info? 189).map (fun i => (i.zero, i.size, i.bytes)) = some (some (.agg #[.int .u64 0, .int .i64 0, .bool false]), 3, 24) := by kernel_rfl

/-- The rows behind an append of zeros. -/
structure ZrR (B : Nat) (w wx : World) (pp tp p mb : Nat) (most : Int) (L : List Ent) (R : Nat) (n : Nat) : Prop where
  ex : ∃ T, Pq B wx pp tp p mb most L T ∧ n < T.length
  kx : Kx B mb w wx
  rs : wx.heap[R]? = some (Obj.cells #[.int .u64 0, .int .i64 0, .bool false] 189 (0, 0))
  ne : ∀ rv, wx.heap[tp]? = some (Obj.cells #[.pointer (some ⟨p, 0, none⟩), rv] 120 (0, 0)) → rv.ownBlock ≠ some R

theorem wrapI {x : Int} (h0 : -9223372036854775808 ≤ x) (h1 : x ≤ 9223372036854775807) : IntKind.i64.wrap x = x := by
  simp [IntKind.wrap, IntKind.bits, IntKind.signed]
  omega

theorem Kx.tab {S : Nat → Prop} {B mb : Nat} {w w' : World} (h : Fr S w w') (hS : ∀ k : Nat, S k → B ≤ k ∧ ∃ cs t f, w.heap[k]? = some (Obj.cells cs t f) ∧ (t = 120 ∨ t = 189)) : Kx B mb w w' := by
  refine ⟨h.os, h.tape, h.output, h.size, fun k h1 h2 _ => h.block k h2 (fun e => by have := (hS k e).1; omega), fun k cs t f h1 h2 _ => h.kept h1 (fun e => ?_), fun k es n h1 _ _ => h.kept h1 (fun e => ?_)⟩
  · obtain ⟨_, cs', t', f', h3, h4⟩ := hS k e
    rw [h1] at h3
    cases h3
    rcases h4 with h4 | h4
    · subst h4; exact absurd h2 (by decide)
    · subst h4; exact absurd h2 (by decide)
  · obtain ⟨_, cs', t', f', h3, h4⟩ := hS k e
    rw [h1] at h3
    cases h3

theorem zr_same {B : Nat} {w W1 : World} {pp tp p mb : Nat} {most : Int} {L : List Ent} {T : List KRow} {ra : Option Addr} {rcap R n : Nat} (h : Pq B w pp tp p mb most L T) (F0 : Fr0 w W1) (hR : w.heap.size = R)
    (htp : w.heap[tp]? = some (Obj.cells #[.pointer (some ⟨p, 0, none⟩), .slice ra T.length rcap] 120 (0, 0))) (hrv : w.ownsRow B 189 3 (.slice ra T.length rcap) T.length (T.flatMap KRow.vals))
    (b0 : W1.heap[R]? = some (Obj.cells #[.int .u64 0, .int .i64 0, .bool false] 189 (0, 0))) (hn : n < T.length) : ZrR B w W1 pp tp p mb most L R n := by
  refine ⟨⟨T, h.kept0 F0, hn⟩, Ks.of0 F0, b0, fun rv hrv2 e => ?_⟩
  rw [F0.kept htp] at hrv2
  simp only [Option.some.injEq, Obj.cells.injEq, Array.mk.injEq, List.cons.injEq, and_true, true_and] at hrv2
  rw [← hrv2] at e
  have := (hrv.lt R e).2
  omega

theorem zr_tp {B : Nat} {w W1 w1 : World} {tp p : Nat} {T : List KRow} {ra : Option Addr} {rcap : Nat} (F0 : Fr0 w W1)
    (htp : w.heap[tp]? = some (Obj.cells #[.pointer (some ⟨p, 0, none⟩), .slice ra T.length rcap] 120 (0, 0))) (hrv : w.ownsRow B 189 3 (.slice ra T.length rcap) T.length (T.flatMap KRow.vals))
    (hg1 : W1.drew.grownBy w1 (Value.slice ra T.length rcap).ownBlock) : w1.heap[tp]? = some (Obj.cells #[.pointer (some ⟨p, 0, none⟩), .slice ra T.length rcap] 120 (0, 0)) := by
  have ltp := lt_of_block htp
  have htpne : (Value.slice ra T.length rcap).ownBlock ≠ some tp := fun e => by
    obtain ⟨cur, hc⟩ := owns_block hrv e
    exact ne_of_types hc htp (by decide) rfl
  have := hg1.block tp (by have := Fr.size F0; simp; omega) (fun e => htpne e.symm)
  rw [this]
  exact F0.kept htp

theorem zr_more {B : Nat} {w W1 w1 : World} {pp tp p mb : Nat} {most : Int} {L : List Ent} {T : List KRow} {ra : Option Addr} {rcap R n m : Nat} {v1 : Value} (h : Pq B w pp tp p mb most L T) (F0 : Fr0 w W1) (hR : w.heap.size = R)
    (htp : w.heap[tp]? = some (Obj.cells #[.pointer (some ⟨p, 0, none⟩), .slice ra T.length rcap] 120 (0, 0))) (hrv : w.ownsRow B 189 3 (.slice ra T.length rcap) T.length (T.flatMap KRow.vals))
    (b0 : W1.heap[R]? = some (Obj.cells #[.int .u64 0, .int .i64 0, .bool false] 189 (0, 0))) (hm : T.length + m = n + 1) (hn : n ≤ L.length)
    (hr1 : w1.ownsRow B 189 3 v1 (T.length + m) (T.flatMap KRow.vals ++ (Builtin.zeroCells (Value.agg #[.int .u64 0, .int .i64 0, .bool false]).cells m).toList)) (hg1 : W1.drew.grownBy w1 (Value.slice ra T.length rcap).ownBlock)
    (hl1 : v1.ownBlock = (Value.slice ra T.length rcap).ownBlock ∨ v1.ownBlock = some W1.drew.heap.size) : ZrR B w (w1.setCell ⟨tp, 1, none⟩ v1) pp tp p mb most L R n := by
  have hBt := h.tab.1
  have ltp := lt_of_block htp
  have htpne : (Value.slice ra T.length rcap).ownBlock ≠ some tp := fun e => by
    obtain ⟨cur, hc⟩ := owns_block hrv e
    exact ne_of_types hc htp (by decide) rfl
  have hRlt : ∀ k, (Value.slice ra T.length rcap).ownBlock = some k → B ≤ k ∧ k < R := fun k hk => ⟨(hrv.lt k hk).1, by have := (hrv.lt k hk).2; omega⟩
  have lR := lt_of_block b0
  have hf : Fr (fun k => k = tp ∨ (Value.slice ra T.length rcap).ownBlock = some k) W1 (w1.setCell ⟨tp, 1, none⟩ v1) :=
    Fr.setCell (Fr.grown (Fr.refl _ W1).drew hg1 (fun k hk _ => .inr hk)) _ _ (fun _ => .inl rfl)
  have hfw : Fr (fun k => k = tp ∨ (Value.slice ra T.length rcap).ownBlock = some k) w (w1.setCell ⟨tp, 1, none⟩ v1) := (Fr0.fr F0).trans hf (fun k hk _ => hk)
  have hS : ∀ w : World, w.heap[tp]? = some (Obj.cells #[.pointer (some ⟨p, 0, none⟩), .slice ra T.length rcap] 120 (0, 0)) → w.ownsRow B 189 3 (.slice ra T.length rcap) T.length (T.flatMap KRow.vals) → ∀ k, (k = tp ∨ (Value.slice ra T.length rcap).ownBlock = some k) → B ≤ k ∧ ∃ cs t f, w.heap[k]? = some (Obj.cells cs t f) ∧ (t = 120 ∨ t = 189) := by
    intro w htp hrv k hk
    rcases hk with rfl | hk
    · exact ⟨hBt, _, _, _, htp, .inl rfl⟩
    · obtain ⟨cur, hc⟩ := owns_block hrv hk
      exact ⟨(hRlt k hk).1, _, _, _, hc, .inr rfl⟩
  have hw1tp : w1.heap[tp]? = some (Obj.cells #[.pointer (some ⟨p, 0, none⟩), .slice ra T.length rcap] 120 (0, 0)) := by
    have := hg1.block tp (by have := Fr.size F0; simp; omega) (fun e => htpne e.symm)
    rw [this]
    exact F0.kept htp
  have hv1 : v1.ownBlock ≠ some tp := fun e => by
    rcases hl1 with g | g
    · rw [g] at e; exact htpne e
    · rw [g] at e
      simp at e
      have := Fr.size F0
      omega
  have hnew := setCell_block hw1tp 1 v1
  have hTl : (T ++ List.replicate m blankR).length = T.length + m := by simp
  have hTb : Tb B (w1.setCell ⟨tp, 1, none⟩ v1) tp p (T ++ List.replicate m blankR) := by
    refine ⟨hBt, v1, hnew, ?_⟩
    have := owns_set_other hr1 ⟨tp, 1, none⟩ v1 hv1
    rw [hTl, List.flatMap_append, ← zeroRows]
    exact this
  refine ⟨⟨_, (h.kept0 F0).retab hf (hS W1 (F0.kept htp) (F0.owns hrv)) hTb (h.ok.grow m) (by rw [hTl]; omega), by rw [hTl]; omega⟩, Kx.tab hfw (hS w htp hrv), ?_, ?_⟩
  · exact hf.kept b0 (by
      rintro (e | e)
      · omega
      · have := (hRlt R e).2; omega)
  · intro rv hrv2 e
    rw [hnew] at hrv2
    simp at hrv2
    rw [← hrv2] at e
    rcases hl1 with g | g
    · rw [g] at e
      have := (hRlt R e).2
      omega
    · rw [g] at e
      simp at e
      omega

/-- What row leaves. -/
def RowPost (B : Nat) (w : World) (pp tp p mb : Nat) (most : Int) (L : List Ent) (id : Int) (e : Ending) (w' : World) : Prop :=
  ∃ T', e = .returned (.tuple #[.agg #[.int .u64 (kkey L id), .int .i64 (klev L id), .bool true], .nilIface]) ∧ Pq B w' pp tp p mb most L T' ∧ Kx B mb w w'

/-- The state of the loop. -/
structure RwR (B : Nat) (w wr : World) (pp tp p mb : Nat) (most : Int) (L : List Ent) (id : Int) (R : Nat) (T : List KRow) (td : List Int) (v : Value) : Prop where
  pq : Pq B wr pp tp p mb most L T
  kx : Kx B mb w wr
  rs : wr.heap[R]? = some (Obj.cells #[.int .u64 0, .int .i64 0, .bool false] 189 (0, 0))
  ne : ∀ rv, wr.heap[tp]? = some (Obj.cells #[.pointer (some ⟨p, 0, none⟩), rv] 120 (0, 0)) → rv.ownBlock ≠ some R
  tdo : wr.ownsRow w.heap.size 38 1 v td.length (td.map fun x => Value.int .i64 x)
  stk : Stk T id td
  idt : id.toNat < T.length
  top : td = [] → ∃ h : id.toNat < T.length, T[id.toNat].kn = true
  hd : ∀ x, td.head? = some x → x = id


theorem fr_set1 {w W : World} {b : Nat} (h : Fr (fun k => k = b) w W) (o : Nat) (v : Value) : Fr (fun k => k = b) w (W.setCell ⟨b, o, none⟩ v) := Fr.setCell h ⟨b, o, none⟩ v (fun _ => rfl)
theorem fr_set3 {w W : World} {b : Nat} (h : Fr (fun k => k = b) w W) (o0 o1 o2 : Nat) (v0 v1 v2 : Value) : Fr (fun k => k = b) w (((W.setCell ⟨b, o0, none⟩ v0).setCell ⟨b, o1, none⟩ v1).setCell ⟨b, o2, none⟩ v2) :=
  fr_set1 (fr_set1 (fr_set1 h o0 v0) o1 v1) o2 v2

theorem RwR.tpb {B : Nat} {w wr : World} {pp tp p mb : Nat} {most : Int} {L : List Ent} {id : Int} {R : Nat} {T : List KRow} {td : List Int} {v : Value} (h : RwR B w wr pp tp p mb most L id R T td v) :
    ∃ rb cap cur, B ≤ rb ∧ rb ≠ R ∧ wr.heap[tp]? = some (Obj.cells #[.pointer (some ⟨p, 0, none⟩), .slice (some ⟨rb, 0, none⟩) T.length cap] 120 (0, 0)) ∧ wr.heap[rb]? = some (Obj.cells cur 189 (0, 0)) ∧
      wr.ownsRow B 189 3 (.slice (some ⟨rb, 0, none⟩) T.length cap) T.length (T.flatMap KRow.vals) ∧
      ∀ (i : Nat) (hi : i < T.length), wr.cell? ⟨rb, i * 3, none⟩ = some (.int .u64 T[i].key) ∧ wr.cell? ⟨rb, i * 3 + 1, none⟩ = some (.int .i64 T[i].lev) ∧ wr.cell? ⟨rb, i * 3 + 2, none⟩ = some (.bool T[i].kn) := by
  obtain ⟨rb, cap, cur, h1, h2, h3, h4, h5⟩ := h.pq.tab.open (by have := h.idt; omega)
  exact ⟨rb, cap, cur, h1, fun e => h.ne _ h2 (by rw [e]; rfl), h2, h3, h4, h5⟩

theorem RwR.start {B : Nat} {w wx : World} {pp tp p mb : Nat} {most : Int} {L : List Ent} {R n : Nat} {T : List KRow} (hP : Pq B wx pp tp p mb most L T) (hlt : n < T.length) (hkx : Kx B mb w wx)
    (hrs : wx.heap[R]? = some (Obj.cells #[.int .u64 0, .int .i64 0, .bool false] 189 (0, 0)))
    (hne : ∀ rv, wx.heap[tp]? = some (Obj.cells #[.pointer (some ⟨p, 0, none⟩), rv] 120 (0, 0)) → rv.ownBlock ≠ some R) (hk : T[n].kn = true) :
    RwR B w wx pp tp p mb most L n R T [] (.slice none 0 0) :=
  ⟨hP, hkx, hrs, hne, World.ownsRow_nil _ _ _ _, Stk.nil _ _, by simpa using hlt, fun _ => ⟨by simpa using hlt, by simpa using hk⟩, fun x h => by simp at h⟩

theorem RwR.first {B : Nat} {w wx w4 : World} {pp tp p mb : Nat} {most : Int} {L : List Ent} {R n : Nat} {T : List KRow} {v' : Value} {o : Obj} (hP : Pq B wx pp tp p mb most L T) (hlt : n < T.length) (hkx : Kx B mb w wx) (hn : 1 ≤ n)
    (hrs : wx.heap[R]? = some (Obj.cells #[.int .u64 0, .int .i64 0, .bool false] 189 (0, 0)))
    (hne : ∀ rv, wx.heap[tp]? = some (Obj.cells #[.pointer (some ⟨p, 0, none⟩), rv] 120 (0, 0)) → rv.ownBlock ≠ some R) (hk : T[n].kn = false)
    (hO : w4.ownsRow w.heap.size 38 1 v' [(n : Int)].length ([(n : Int)].map fun x => Value.int .i64 x)) (hg : (wx.alloc o).grownBy w4 (Value.slice none 0 0).ownBlock) :
    RwR B w w4 pp tp p mb most L n R T [(n : Int)] v' := by
  have hf : Fr0 wx w4 := Fr.grown ((Fr0.refl wx).alloc o) hg (fun k hk _ => by cases hk)
  refine ⟨hP.kept0 hf, Ks.trans hkx (Ks.of0 hf), hf.kept hrs, fun rv hrv => hne rv ?_, hO, Stk.one (by omega) (fun h => by simpa using hk), by simpa using hlt, fun h => by simp at h, fun x h => by simp at h; exact h.symm⟩
  obtain ⟨_, rv0, h1, _⟩ := hP.tab
  rw [hf.kept h1] at hrv
  rw [h1]
  exact hrv

theorem RwR.push {B : Nat} {w wr W w4 : World} {pp tp p mb : Nat} {most : Int} {L : List Ent} {id : Int} {R : Nat} {T : List KRow} {td : List Int} {v v' : Value} {y : Int} {o : Obj} (h : RwR B w wr pp tp p mb most L id R T td v) (hf : Fr0 wr W) (hB : B ≤ w.heap.size)
    (hO : w4.ownsRow w.heap.size 38 1 v' (td ++ [y]).length ((td ++ [y]).map fun x => Value.int .i64 x)) (hg : (W.alloc o).grownBy w4 v.ownBlock) (hs : Stk T id (td ++ [y])) (h0 : td ≠ []) :
    RwR B w w4 pp tp p mb most L id R T (td ++ [y]) v' := by
  have hblk : ∀ k, v.ownBlock = some k → w.heap.size ≤ k ∧ ∃ cs, W.heap[k]? = some (Obj.cells cs 38 (0, 0)) := fun k hk => by
    obtain ⟨cur, hc⟩ := owns_block h.tdo hk
    exact ⟨(h.tdo.lt k hk).1, cur, hf.kept hc⟩
  have hko : Ko B wr w4 := ((Ko.of0 hf).alloc o).grown hg (fun k hk => by
    obtain ⟨h1, cs, h2⟩ := hblk k hk
    exact ⟨by omega, cs, _, _, ((Fr0.refl W).alloc o).kept h2, by decide⟩)
  have hF : Fr (fun k => v.ownBlock = some k) wr w4 := Fr.grown (Fr0.fr (hf.alloc o)) hg (fun k hk _ => hk)
  have htpk : ∀ rv, w4.heap[tp]? = some (Obj.cells #[.pointer (some ⟨p, 0, none⟩), rv] 120 (0, 0)) → wr.heap[tp]? = some (Obj.cells #[.pointer (some ⟨p, 0, none⟩), rv] 120 (0, 0)) := fun rv hrv => by
    obtain ⟨_, rv0, h1, _⟩ := h.pq.tab
    rw [hko.cells _ _ _ _ h1 (by decide)] at hrv
    rw [h1]
    exact hrv
  refine ⟨h.pq.keptO hko, Ks.fr h.kx hF (fun i h1 h2 => by have := (hblk i h2).1; omega), hko.cells _ _ _ _ h.rs (by decide), fun rv hrv => h.ne rv (htpk rv hrv), hO, hs, h.idt, fun e => by simp at e, fun x hx => ?_⟩
  cases td with
  | nil => exact absurd rfl h0
  | cons a td => exact h.hd x (by simpa using hx)

/-- A rule's row is filled: the stack is shorter by one. -/
theorem RwR.pop {B : Nat} {w wr W : World} {pp tp p mb : Nat} {most : Int} {L : List Ent} {id : Int} {R : Nat} {T : List KRow} {td : List Int} {x : Int} {va : Option Addr} {vc rb cap : Nat} (h : RwR B w wr pp tp p mb most L id R T (td ++ [x]) (.slice va (td.length + 1) vc)) (hf : Fr0 wr W) (hB : B ≤ w.heap.size) (hid : isKnown L id)
    (htp : wr.heap[tp]? = some (Obj.cells #[.pointer (some ⟨p, 0, none⟩), .slice (some ⟨rb, 0, none⟩) T.length cap] 120 (0, 0))) :
    RwR B w (((W.setCell ⟨rb, x.toNat * 3, none⟩ (.int .u64 (kkey L x))).setCell ⟨rb, x.toNat * 3 + 1, none⟩ (.int .i64 (klev L x))).setCell ⟨rb, x.toNat * 3 + 2, none⟩ (.bool true)) pp tp p mb most L id R (T.set x.toNat (krow L x)) td (.slice va td.length vc) := by
  obtain ⟨rb', cap', cur, h1, h2, h3, h4, h5, h6⟩ := h.tpb
  rw [htp] at h3
  simp only [Option.some.injEq, Obj.cells.injEq, Array.mk.injEq, List.cons.injEq, Value.slice.injEq, Addr.mk.injEq, and_true, true_and] at h3
  obtain ⟨rfl, rfl⟩ := h3
  have hx := h.stk.rng x (by simp)
  have hidt := h.idt
  have hxl : x.toNat < T.length := by omega
  have hxu := h.stk.un x (by simp) hxl
  have hfw : Fr (fun k => k = rb) wr (((W.setCell ⟨rb, x.toNat * 3, none⟩ (.int .u64 (kkey L x))).setCell ⟨rb, x.toNat * 3 + 1, none⟩ (.int .i64 (klev L x))).setCell ⟨rb, x.toNat * 3 + 2, none⟩ (.bool true)) := fr_set3 (Fr0.fr hf) _ _ _ _ _ _
  have hS : ∀ k : Nat, k = rb → B ≤ k ∧ ∃ cs t f, wr.heap[k]? = some (Obj.cells cs t f) ∧ (t = 120 ∨ t = 189) := fun k e => by subst e; exact ⟨h1, _, _, _, h4, .inr rfl⟩
  have htprb : tp ≠ rb := fun e => by rw [← e] at h4; exact ne_of_types htp h4 (by decide) rfl
  have htp' := hfw.kept htp htprb
  have hk : isKnown L x := ⟨by omega, by have := hid.2; omega⟩
  have h0 : x ≠ 0 := by omega
  have hl3 := krows_len T
  have hown := owns_set_own (owns_set_own (owns_set_own (hf.owns h5) (x.toNat * 3) (.int .u64 (kkey L x)) (by omega)) (x.toNat * 3 + 1) (.int .i64 (klev L x)) (by rw [List.length_set]; omega)) (x.toNat * 3 + 2) (.bool true) (by rw [List.length_set, List.length_set]; omega)
  have e3 := krows_set T x.toNat hxl (krow L x)
  have hown' : World.ownsRow (((W.setCell ⟨rb, x.toNat * 3, none⟩ (.int .u64 (kkey L x))).setCell ⟨rb, x.toNat * 3 + 1, none⟩ (.int .i64 (klev L x))).setCell ⟨rb, x.toNat * 3 + 2, none⟩ (.bool true)) B 189 3 (.slice (some ⟨rb, 0, none⟩) T.length cap) T.length ((T.set x.toNat (krow L x)).flatMap KRow.vals) := by
    rw [← e3]; exact hown
  have hTb : Tb B (((W.setCell ⟨rb, x.toNat * 3, none⟩ (.int .u64 (kkey L x))).setCell ⟨rb, x.toNat * 3 + 1, none⟩ (.int .i64 (klev L x))).setCell ⟨rb, x.toNat * 3 + 2, none⟩ (.bool true)) tp p (T.set x.toNat (krow L x)) :=
    ⟨h.pq.tab.1, _, htp', by rw [List.length_set]; exact hown'⟩
  refine ⟨h.pq.retab hfw hS hTb (h.pq.ok.put hk h0) (by rw [List.length_set]; exact h.pq.tl), Ks.trans h.kx (Kx.tab hfw hS), hfw.kept h.rs (fun e => h2 e.symm), ?_, ?_, h.stk.pop, by rw [List.length_set]; exact hidt, ?_, ?_⟩
  · intro rv hrv e
    rw [htp'] at hrv
    simp only [Option.some.injEq, Obj.cells.injEq, Array.mk.injEq, List.cons.injEq, and_true, true_and] at hrv
    rw [← hrv] at e
    cases e
    exact h2 rfl
  · have ho := h.tdo
    rw [List.map_append] at ho
    have hva : ∃ g, va = some ⟨g, 0, none⟩ := by
      rcases ho.2 with ⟨e, _⟩ | ⟨g, cap', cur', e, _⟩
      · simp at e
      · simp only [Value.slice.injEq] at e
        exact ⟨g, e.1⟩
    obtain ⟨g, rfl⟩ := hva
    have hgrb : g ≠ rb := fun e => by
      obtain ⟨cur2, hc2⟩ := owns_block ho (k := g) rfl
      rw [e] at hc2
      exact ne_of_types hc2 h4 (by decide) rfl
    have hl1 : (td ++ [x]).length = td.length + 1 := by simp
    rw [hl1] at ho
    have := ownsRow_pop (xs := td.map fun x => Value.int .i64 x) (by simp) ho
    exact hfw.owns this (fun k hk => by
      simp [Value.ownBlock] at hk
      omega)
  · intro htd
    subst htd
    have := h.hd x (by simp)
    subst this
    exact ⟨by rw [List.length_set]; exact hidt, by rw [List.getElem_set_self]; rfl⟩
  · intro y hy
    cases td with
    | nil => simp at hy
    | cons a td => exact h.hd y (by simpa using hy)

/-- The end: the row is read into the result. -/
theorem RwR.done {B : Nat} {w wr : World} {pp tp p mb : Nat} {most : Int} {L : List Ent} {id : Int} {R : Nat} {T : List KRow} {v : Value} {f : Nat → Value} (h : RwR B w wr pp tp p mb most L id R T [] v) (hB : B ≤ w.heap.size) (hR : w.heap.size = R) :
    RowPost B w pp tp p mb most L id (.returned (.tuple #[.agg #[.int .u64 (kkey L id), .int .i64 (klev L id), .bool true], .nilIface])) (((wr.setCell ⟨R, 0, none⟩ (f 0)).setCell ⟨R, 1, none⟩ (f 1)).setCell ⟨R, 2, none⟩ (f 2)) := by
  obtain ⟨rb, cap, cur, h1, h2, h3, h4, h5, h6⟩ := h.tpb
  have hfw : Fr (fun k => k = R) wr (((wr.setCell ⟨R, 0, none⟩ (f 0)).setCell ⟨R, 1, none⟩ (f 1)).setCell ⟨R, 2, none⟩ (f 2)) := fr_set3 (Fr.refl _ wr) _ _ _ _ _ _
  have htpR : tp ≠ R := fun e => by
    have := h.rs
    rw [← e] at this
    exact ne_of_types h3 this (by decide) rfl
  exact ⟨T, rfl, h.pq.retab hfw (fun k e => by subst e; exact ⟨by omega, _, _, _, h.rs, .inr rfl⟩) ⟨h.pq.tab.1, _, hfw.kept h3 htpR, hfw.owns h5 (fun k hk e => by
      simp [Value.ownBlock] at hk
      omega)⟩ h.pq.ok h.pq.tl, Ks.fr h.kx hfw (fun i h1 h2 => by omega)⟩

end Go.Proofs.YtodmpcnpedpheaaGreatDoor

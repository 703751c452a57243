/- Letters in memory, and the walks of the reference's Start and Apply. -/
import Derived.Test.YtbokcmkbnkncoaaVal2
import Derived.Test.YtbokcmkbnkncoaaCov
import Derived.Maps.AppendAt
import Derived.Laws.OwnMore
set_option linter.unusedSimpArgs false
set_option linter.unusedVariables false
namespace Go.Proofs.Ytbokcmkbnkncoaa
open Go.RowKit

def Lt.vals (l : Lt) : List Value := [.int .i64 l.ver, .int .i64 l.org]
def ltCells (T : List Lt) : List Value := T.flatMap Lt.vals

theorem ltCells_len (T : List Lt) : (ltCells T).length = T.length * 2 := flat_len Lt.vals 2 T (fun _ _ => rfl)
theorem ltCells_append (S T : List Lt) : ltCells (S ++ T) = ltCells S ++ ltCells T := by simp [ltCells]
theorem ltCells_one (T : List Lt) : ∀ u ∈ ltCells T, u.oneCell' = true := by
  intro u hu
  obtain ⟨l, _, hl⟩ := List.mem_flatMap.1 hu
  simp [Lt.vals] at hl
  rcases hl with rfl | rfl <;> rfl

/-- A slice of the call's own that holds letters. -/
structure LOwn (w0 w : World) (v : Value) (T : List Lt) : Prop where
  own : w.ownsRow 0 90 2 v T.length (ltCells T)
  new : ∀ k, v.ownBlock = some k → w0.heap.size ≤ k

theorem LOwn.kept0 {w0 w w' : World} {v : Value} {T : List Lt} (h : LOwn w0 w v T) (hf : Fr0 w w') : LOwn w0 w' v T := ⟨hf.owns h.own, h.new⟩
theorem LOwn.nil (w0 w : World) : LOwn w0 w (.slice none 0 0) [] := ⟨World.ownsRow_nil _ _ _ _, fun k hk => by simp [Value.ownBlock] at hk⟩

theorem LOwn.cell {w0 w : World} {v : Value} {T : List Lt} (h : LOwn w0 w v T) {k : Nat} (hk : k < T.length) : ∃ lb cap, v = .slice (some ⟨lb, 0, none⟩) T.length cap ∧ w.cell? ⟨lb, k * 2, none⟩ = some (.int .i64 T[k].ver) ∧ w.cell? ⟨lb, k * 2 + 1, none⟩ = some (.int .i64 T[k].org) ∧ lb < w.heap.size := by
  obtain ⟨lb, cap, hsv, _, _⟩ := h.own.form (by omega)
  have h1 := h.own
  rw [hsv] at h1
  have hc : ∀ j u, T[k].vals[j]? = some u → w.cell? ⟨lb, k * 2 + j, none⟩ = some u := by
    intro j u hu
    have hj : j < 2 := by have := (List.getElem?_eq_some_iff.1 hu).1; simpa [Lt.vals] using this
    refine owns_cell h1 _ _ ?_
    rw [ltCells, flat_get Lt.vals 2 T (fun _ _ => rfl) k j hj _ (List.getElem?_eq_getElem hk)]
    exact hu
  have d0 := hc 0 _ rfl
  exact ⟨lb, cap, hsv, by simpa using d0, hc 1 _ rfl, World.block_lt_of_cell? w _ d0⟩

theorem LOwn.push {w0 wr w1 : World} {v : Value} {T S : List Lt} {o : World → World} {g cap : Nat} (h : LOwn w0 wr v T) (hfr : Fr0 w0 wr)
    (hown1 : w1.ownsRow 0 90 2 (.slice (some ⟨g, 0, none⟩) (T.length + S.length) cap) (T.length + S.length) (ltCells T ++ ltCells S)) (W : World) (hW : Fr0 w0 W) (hgrow : W.grownBy w1 v.ownBlock) (hat : v.ownBlock = some g ∨ g = W.heap.size) :
    LOwn w0 w1 (.slice (some ⟨g, 0, none⟩) (T.length + S.length) cap) (T ++ S) ∧ Fr0 w0 w1 := by
  refine ⟨⟨?_, ?_⟩, Fr.grown hW hgrow (fun j hj hlt => by have := h.new j hj; omega)⟩
  · rw [List.length_append, ltCells_append]; exact hown1
  · intro k hk
    simp [Value.ownBlock] at hk
    subst hk
    have := hW.size'
    rcases hat with e | e
    · exact h.new _ e
    · omega

theorem info_lt : (Try.prog.info? 90).map (fun i => (i.zero, i.size, i.bytes)) = some (some (.agg #[.int .i64 0, .int .i64 0]), 2, 16) := by kernel_rfl

set_option maxRecDepth 100000 in
set_option maxHeartbeats 1000000 in
theorem ref_Start (length : Int) (n0 : Nat) (hn : n0 = length.toNat) (hl : length ≤ 1000000) (w : World) :
    Calls Try.prog 11 #[.int .i64 length] w fun e w' => ∃ v, e = .returned v ∧ LOwn w w' v (run n0 0 0) ∧ Fr0 w w' := by
  obtain ⟨i1, hi1, ha1, ha2, ha3⟩ := info_parts info_lt
  have hu1 : Try.prog.underlying 27 = some (.slice 90) := Try.underlying27
  have HN := Lib.hid hn
  clear hn
  go_enter Try.func11, Try.ntmps11
  go_wp2_with fail
  go_loopw [3, 4] (fun v i wr => ∃ k : Nat, k ≤ n0 ∧ i = .int .i64 k ∧ LOwn w wr v (run k 0 0) ∧ Fr0 w wr) (fun _ i _ => n0 - (intOf i).toNat)
  case atStart => exact ⟨0, Nat.zero_le _, rfl, LOwn.nil _ _, Fr0.refl _⟩
  case round =>
    obtain ⟨k, hk, rfl, hO, hfr⟩ := hrel
    by_cases hlt : (k : Int) < length
    · have hrl := run_len k 0 0
      have hown := hO.own
      have HO := Lib.hid hO
      have hn63 : (run k 0 0).length + 1 ≤ maxLen := by unfold maxLen; omega
      have hby : ((run k 0 0).length + 1) * 16 ≤ 140737488355328 := by omega
      clear hrl hO
      go_wp2_with (at_builtin; refine wpList_append_lies _ rfl _ _ _ rfl 0 90 i1 _ 2 16 hu1 hi1 ha1 ha2 ha3 rfl (by omega) u3 (run k 0 0).length (ltCells (run k 0 0)) rfl (hown.alloc _) ⟨wr.heap.size, 0, none⟩ 1 1 [.int .i64 0, .int .i64 k] rfl rfl (World.news_of_block (cs := #[.int .i64 0, .int .i64 k]) (t := 90) (fr := (0, 0)) (heap_alloc_new wr _)) (by simp [Value.oneCell']) (by omega) hn63 hby (by omega) (wr.heap.size + 1) (by simp) ?_; intro g cap' w1 hown1 hgrow hat hlt2)
      have hX := HO.out.push (S := [⟨0, (k : Int)⟩]) (o := id) hfr hown1 _ (hfr.alloc _) hgrow (by simpa using hat)
      have e : run k 0 0 ++ [⟨0, (k : Int)⟩] = run (k + 1) 0 0 := by rw [run_succ]; simp
      rw [e] at hX
      go_roundw
      case rel => exact ⟨k + 1, by have := HN.out; omega, by go_num, hX.1, hX.2⟩
      case measure => simp [intOf]; have := HN.out; omega
    · have hke : Hid (k = n0) := by show _ = _; have := HN.out; omega
      go_wp2_with fail
      go_ret
      exact ⟨_, rfl, by rw [← hke.out]; exact hO, hfr⟩

theorem ltCells_take : ∀ (T : List Lt) (n : Nat), ltCells (T.take n) = (ltCells T).take (n * 2)
  | [], n => by simp [ltCells]
  | l :: T, 0 => by simp [ltCells]
  | l :: T, n + 1 => by
    have ih := ltCells_take T n
    have e : ∀ l T, ltCells (l :: T) = .int .i64 l.ver :: .int .i64 l.org :: ltCells T := fun l T => rfl
    rw [List.take_succ_cons, e, e, ih, show (n + 1) * 2 = n * 2 + 1 + 1 by omega, List.take_succ_cons, List.take_succ_cons]
theorem ltCells_drop : ∀ (T : List Lt) (n : Nat), ltCells (T.drop n) = (ltCells T).drop (n * 2)
  | [], n => by simp [ltCells]
  | l :: T, 0 => by simp [ltCells]
  | l :: T, n + 1 => by
    have ih := ltCells_drop T n
    have e : ∀ l T, ltCells (l :: T) = .int .i64 l.ver :: .int .i64 l.org :: ltCells T := fun l T => rfl
    rw [List.drop_succ_cons, e, ih, show (n + 1) * 2 = n * 2 + 1 + 1 by omega, List.drop_succ_cons, List.drop_succ_cons]

/-- A slice value that holds letters: a source of an append. -/
def SrcAt (w : World) (src : Value) (S : List Lt) : Prop :=
  (src = .slice none 0 0 ∧ S = []) ∨ ∃ ad c, src = .slice (some ad) S.length c ∧ ∀ j u, (ltCells S)[j]? = some u → w.cell? (ad.add j) = some u

theorem add_off (b o j : Nat) : (⟨b, o, none⟩ : Addr).add j = ⟨b, o + j, none⟩ := by
  unfold Addr.add
  split
  · next e => rw [e, Nat.add_zero]
  · rfl

theorem srcAt_part {w : World} {g n cap : Nat} {T : List Lt} (h : w.ownsRow 0 90 2 (.slice (some ⟨g, 0, none⟩) n cap) n (ltCells T)) (A B : Nat) (h1 : A ≤ B) (h2 : B ≤ T.length) (c : Nat) : SrcAt w (.slice (some ⟨g, A * 2, none⟩) (B - A) c) (sl T A B) := by
  have hl : (sl T A B).length = B - A := by unfold sl; simp; omega
  refine .inr ⟨⟨g, A * 2, none⟩, c, by rw [hl], ?_⟩
  intro j u hj
  rw [add_off]
  refine owns_cell h _ _ ?_
  unfold sl at hj
  simp only [Int.toNat_natCast] at hj
  rw [ltCells_drop, ltCells_take, List.getElem?_drop, List.getElem?_take] at hj
  split at hj
  · exact hj
  · cases hj

theorem srcAt_none {w : World} {ad : Addr} {c : Nat} {S : List Lt} (hS : S = []) : SrcAt w (.slice (some ad) 0 c) S := by
  subst hS
  exact .inr ⟨ad, c, rfl, fun j u hj => by simp [ltCells] at hj⟩

theorem run_append_lts (w : World) (ty : TypeId) (v : Value) (Y : List Lt) (hown : w.ownsRow 0 90 2 v Y.length (ltCells Y)) (src : Value) (S : List Lt) (hsrc : SrcAt w src S) (hlen : Y.length + S.length ≤ 1000000) :
    ∃ v' w', (Builtin.append_ #[27, 27] ty #[v, src]).run Try.prog w = .ok v' w' ∧ w'.ownsRow 0 90 2 v' (Y ++ S).length (ltCells (Y ++ S)) ∧ w.grownBy w' v.ownBlock ∧ (v'.ownBlock = v.ownBlock ∨ v'.ownBlock = some w.heap.size) := by
  obtain ⟨i1, hi1, ha1, ha2, ha3⟩ := info_parts info_lt
  have hu1 : Try.prog.underlying 27 = some (.slice 90) := Try.underlying27
  rcases hsrc with ⟨rfl, rfl⟩ | ⟨ad, c, rfl, hc⟩
  · exact ⟨v, w, run_append_owned_none (P := Try.prog) (w := w) 0 _ ty _ i1 2 hu1 hi1 v _ _ hown, by simpa using hown, World.grownBy.refl w _, .inl rfl⟩
  · obtain ⟨v', w', h1, h2, h3, _, h5⟩ := run_append_own_at (P := Try.prog) w 0 27 ty 90 i1 _ 2 16 hu1 hi1 ha1 ha2 ha3 rfl (by omega) v Y.length (ltCells Y) hown ad S.length c (ltCells S) (ltCells_len S) hc (ltCells_one S) (by unfold maxLen; omega) (by omega) (Nat.zero_le _)
    exact ⟨v', w', h1, by rw [List.length_append, ltCells_append]; exact h2, h3, h5⟩

theorem wpList_append_lts {w : World} {ops : Array Oper} {rest : List Oper} {o : Oper} {a : Act} {Q : Exit → Act → World → Prop} (hgd : o.guard = none) (s x : Operand)
    (ho : o.op = .call { callee := .builtin .append, args := #[s, x], argTypes := #[27, 27] })
    (v : Value) (Y : List Lt) (hs : a.eval s = v) (hown : w.ownsRow 0 90 2 v Y.length (ltCells Y)) (src : Value) (S : List Lt) (hx : a.eval x = src) (hsrc : SrcAt w src S) (hlen : Y.length + S.length ≤ 1000000)
    (h : ∀ v' w', w'.ownsRow 0 90 2 v' (Y ++ S).length (ltCells (Y ++ S)) → w.grownBy w' v.ownBlock → (v'.ownBlock = v.ownBlock ∨ v'.ownBlock = some w.heap.size) → wpList Try.prog ops Q rest (a.put o.dst v') w') : wpList Try.prog ops Q (o :: rest) a w := by
  obtain ⟨v', w', hr, h2, h3, h4⟩ := run_append_lts w o.type v Y hown src S hsrc hlen
  refine wpList_plain hgd fun K hK => ?_
  unfold Oper.wp execOp
  simp only [ho, resolve, invoke, builtin, Sem.run_bind, Sem.run_pure, Result.andThen_ok, List.map_toArray, List.map_cons, List.map_nil, hs, hx, hr]
  exact hK _ _ (h v' w' h2 h3 h4)

theorem LOwn.more {w0 W w1 : World} {v v' : Value} {Y S : List Lt} (h : LOwn w0 W v Y) (hW : Fr0 w0 W) (h1 : w1.ownsRow 0 90 2 v' (Y ++ S).length (ltCells (Y ++ S))) (hg : W.grownBy w1 v.ownBlock) (hat : v'.ownBlock = v.ownBlock ∨ v'.ownBlock = some W.heap.size) : LOwn w0 w1 v' (Y ++ S) ∧ Fr0 w0 w1 := by
  refine ⟨⟨h1, ?_⟩, Fr.grown hW hg (fun j hj hlt => by have := h.new j hj; omega)⟩
  intro k hk
  have := hW.size'
  rcases hat with e | e
  · exact h.new k (by rw [← e]; exact hk)
  · rw [e] at hk; simp at hk; omega

end Go.Proofs.Ytbokcmkbnkncoaa

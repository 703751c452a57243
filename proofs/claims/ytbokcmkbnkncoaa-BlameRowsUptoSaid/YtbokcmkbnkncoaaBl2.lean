/- The walk of builder.add where the last row goes on. -/
import Derived.Test.YtbokcmkbnkncoaaBl1
set_option linter.unusedSimpArgs false
set_option linter.unusedVariables false
namespace Go.Proofs.Ytbokcmkbnkncoaa
open Go.RowKit

theorem owns_set_own {w : World} {base : Nat} {e : TypeId} {size n cap g : Nat} {xs : List Value} (h : w.ownsRow base e size (.slice (some ⟨g, 0, none⟩) n cap) n xs) (j : Nat) (u : Value) (hj : j < xs.length) : (w.setCell ⟨g, j, none⟩ u).ownsRow base e size (.slice (some ⟨g, 0, none⟩) n cap) n (xs.set j u) := by
  refine ⟨by rw [List.length_set]; exact h.1, .inr ?_⟩
  rcases h.2 with ⟨h1, _⟩ | ⟨g', cap', cur, h1, hb, hg, h2, h3, h4, h5⟩
  · cases h1
  · simp only [Value.slice.injEq, Option.some.injEq, Addr.mk.injEq] at h1
    obtain ⟨⟨rfl, _, _⟩, _, rfl⟩ := h1
    refine ⟨g, cap, _, rfl, hb, setCell_block hg j u, h2, h3, by simpa using h4, ?_⟩
    rw [← h5, Array.toList_setIfInBounds, List.take_set]

theorem rowCells_set (init : List Rw) (r : Rw) (m : Int) : (rowCells (init ++ [r])).set (init.length * 4 + 1) (.int .i64 m) = rowCells (init ++ [⟨r.fr, m, r.ver, r.org⟩]) := by
  have hl : (rowCells init).length = init.length * 4 := flat_len Rw.vals 4 init (fun _ _ => rfl)
  unfold rowCells at *
  rw [List.flatMap_append, List.flatMap_append, List.set_append_right _ _ (by omega), hl]
  simp [Rw.vals]

set_option maxRecDepth 100000 in
set_option maxHeartbeats 2000000 in
theorem bl_add_join {w : World} {q : Nat} {rv : Value} {init : List Rw} {r : Rw} {len : Int} (hB : Bd w q rv (init ++ [r]) len) (n : Int) (hn : 1 ≤ n) (hl : 0 ≤ len) (hs : len + n ≤ 9223372036854775807) (hlen : init.length ≤ 1000000)
    (b1 : 0 ≤ r.org) (b2 : 0 ≤ r.n) (b3 : r.org + r.n ≤ 9223372036854775807) (b4 : r.n + n ≤ 9223372036854775807) :
    Calls Try.prog 29 #[.pointer (some ⟨q, 0, none⟩), .int .i64 n, .int .i64 r.ver, .int .i64 (r.org + r.n)] w fun e w' => e = .returned (.tuple #[]) ∧ BStep w w' q rv (init ++ [⟨r.fr, r.n + n, r.ver, r.org⟩]) (len + n) := by
  obtain ⟨c0, c1, f, l⟩ := cells2 hB.ptr
  have hag := hB.apart
  have hown := hB.own
  have hlk : (init ++ [r]).length = init.length + 1 := by simp
  obtain ⟨lb, cap, hrv, hc⟩ := owned_row hown (k := init.length) (r := r) (by simp)
  rw [hlk] at hrv
  rw [hrv] at c0 hag
  have HRV := Lib.hid hrv
  have hlq : lb ≠ q := by simpa [Value.ownBlock] using hag
  have d1 := hc 1 _ rfl
  have d2 := hc 2 _ rfl
  have d3 := hc 3 _ rfl
  have hn0 : (n == 0) = false := by simp; omega
  have hv1 : (r.ver == r.ver) = true := by simp
  have hv2 : (r.org + r.n == r.org + r.n) = true := by simp
  have fl : ∀ o, w.frozen? ⟨lb, o, none⟩ = false := by
    intro o
    rcases hown.2 with ⟨h1, _⟩ | ⟨g', cap', cur, h1, hb, hg, _⟩
    · rw [hrv] at h1; cases h1
    · rw [hrv] at h1
      simp at h1
      rw [h1.1]
      exact frozen_of_block hg o
  have ll := World.block_lt_of_cell? w _ d1
  have HOWN := Lib.hid hown
  have HP := Lib.hid hB.ptr
  have g1 : (0 : Int) ≤ (init.length : Int) := by omega
  have g2 : (init.length : Int) < (init.length : Int) + 1 := by omega
  clear hrv hown hB hc hlk hag
  go_enter Try.func29, Try.ntmps29
  go_upto_region 2 with fail
  have hwr := IntWalk.i64_in (r.org + r.n) (by omega)
  go_quiet (fail)
  clear hwr
  go_wp2_with fail
  go_end0
  refine ⟨rfl, .slice (some ⟨lb, 0, none⟩) (init.length + 1) cap, ⟨?_, ?_⟩, ?_, ?_⟩
  · have h1 := HP.out
    rw [HRV.out] at h1
    exact setCell_block ((setCell_other (w := w.drewN _) ⟨lb, init.length * 4 + 1, none⟩ _ (Ne.symm hlq)).trans h1) 1 _
  · have h1 := HOWN.out
    rw [HRV.out, show (init ++ [r]).length = init.length + 1 by simp] at h1
    have h2 := owns_set_own (w := w) h1 (init.length * 4 + 1) (.int .i64 (r.n + n)) (by rw [h1.1]; omega)
    rw [rowCells_set] at h2
    rw [show (init ++ [(⟨r.fr, r.n + n, r.ver, r.org⟩ : Rw)]).length = init.length + 1 by simp]
    exact owns_set_other h2 ⟨q, 1, none⟩ _ (by simpa [Value.ownBlock] using hlq)
  · refine Fr.setCell (Fr.setCell ((Fr.refl _ w).drewN _) _ _ (fun _ => .inr ?_)) _ _ (fun _ => .inl rfl)
    rw [HRV.out]
    rfl
  · intro k hk
    rw [HRV.out]
    exact .inl hk

/-- The last row's numbers are small. -/
def lastOk (rs : List Rw) (n : Int) : Prop := ∀ r, rs.getLast? = some r → 0 ≤ r.org ∧ 0 ≤ r.n ∧ r.org + r.n ≤ 9223372036854775807 ∧ r.n + n ≤ 9223372036854775807

theorem BStep.same {w w' : World} {q : Nat} {rv : Value} {rs : List Rw} {len : Int} (h : Bd w q rv rs len) (hf : Fr0 w w') : BStep w w' q rv rs len := ⟨rv, h.kept0 hf, hf.fr, fun _ h => .inl h⟩

theorem bl_add {w : World} {q : Nat} {rv : Value} {rs : List Rw} {len : Int} (hB : Bd w q rv rs len) (n ver org : Int) (hn : 0 ≤ n) (hl : 0 ≤ len) (hs : len + n ≤ 9223372036854775807) (hlen : rs.length ≤ 1000000) (hlast : lastOk rs n) :
    Calls Try.prog 29 #[.pointer (some ⟨q, 0, none⟩), .int .i64 n, .int .i64 ver, .int .i64 org] w fun e w' => e = .returned (.tuple #[]) ∧ BStep w w' q rv (addRow rs len n ver org) (len + n) := by
  by_cases h0 : n = 0
  · subst h0
    refine (bl_add_zero q ver org w).mono ?_
    rintro e w' ⟨rfl, rfl⟩
    rw [addRow, if_pos rfl, Int.add_zero]
    exact ⟨rfl, BStep.same hB (Fr0.refl w)⟩
  · cases hg : rs.getLast? with
    | none =>
      have e0 : rs = [] := List.getLast?_eq_none_iff.1 hg
      rw [addRow, if_neg h0, hg]
      have := bl_add_new hB n ver org (by omega) hl hs hlen (fun r hr => by rw [hg] at hr; cases hr) (fun r hr => by rw [hg] at hr; cases hr)
      rw [e0] at this ⊢
      exact this
    | some r =>
      obtain ⟨b1, b2, b3, b4⟩ := hlast r hg
      rw [addRow, if_neg h0, hg]
      by_cases hm : r.ver = ver ∧ r.org + r.n = org
      · show Calls _ _ _ _ fun e w' => _ ∧ BStep w w' q rv (if r.ver = ver ∧ r.org + r.n = org then rs.dropLast ++ [⟨r.fr, r.n + n, r.ver, r.org⟩] else _) (len + n)
        rw [if_pos hm]
        obtain ⟨rfl, rfl⟩ := hm
        have hne : rs ≠ [] := by rintro rfl; cases hg
        have he : rs = rs.dropLast ++ [r] := by
          have h1 := List.dropLast_concat_getLast hne
          rw [List.getLast?_eq_some_getLast hne] at hg
          rw [Option.some.inj hg] at h1
          exact h1.symm
        generalize rs.dropLast = init at *
        subst he
        exact bl_add_join hB n (by omega) hl hs (by simp at hlen; omega) b1 b2 b3 b4
      · show Calls _ _ _ _ fun e w' => _ ∧ BStep w w' q rv (if r.ver = ver ∧ r.org + r.n = org then rs.dropLast ++ [⟨r.fr, r.n + n, r.ver, r.org⟩] else _) (len + n)
        rw [if_neg hm]
        exact bl_add_new hB n ver org (by omega) hl hs hlen (fun r' hr => by rw [hg] at hr; cases hr; exact hm) (fun r' hr => by rw [hg] at hr; cases hr; exact ⟨b1, b2, b3⟩)

end Go.Proofs.Ytbokcmkbnkncoaa

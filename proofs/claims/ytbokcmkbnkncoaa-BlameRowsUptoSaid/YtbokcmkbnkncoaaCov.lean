/- What blame.Of returns for valid patches: plain laws on rows and letters. -/
import Derived.Test.YtbokcmkbnkncoaaVal
set_option linter.unusedSimpArgs false
set_option linter.unusedVariables false
namespace Go.Proofs.Ytbokcmkbnkncoaa
open Go.RowKit

/-- No two rows side by side could be one. -/
def Mx : List Rw → Prop
  | [] => True
  | [_] => True
  | r :: s :: t => ¬ (r.ver = s.ver ∧ r.org + r.n = s.org) ∧ Mx (s :: t)

theorem addRow_cons (r s : Rw) (t : List Rw) (len n ver org : Int) : addRow (r :: s :: t) len n ver org = r :: addRow (s :: t) len n ver org := by
  unfold addRow
  by_cases hn : n = 0
  · rw [if_pos hn, if_pos hn]
  · rw [if_neg hn, if_neg hn]
    simp only [List.getLast?_cons_cons, List.dropLast_cons_cons]
    split
    · next hg => simp at hg
    · split <;> rfl

theorem addRow_head (s : Rw) (t : List Rw) (len n ver org : Int) : ∃ s' t', addRow (s :: t) len n ver org = s' :: t' ∧ s'.ver = s.ver ∧ s'.org = s.org := by
  cases t with
  | nil =>
    by_cases hn : n = 0
    · subst hn; rw [addRow_zero]; exact ⟨s, [], rfl, rfl, rfl⟩
    · rw [show [s] = [] ++ [s] from rfl, addRow_append _ _ _ _ _ _ hn]
      split
      · exact ⟨_, _, rfl, rfl, rfl⟩
      · exact ⟨s, _, rfl, rfl, rfl⟩
  | cons u t => rw [addRow_cons]; exact ⟨s, _, rfl, rfl, rfl⟩

theorem Mx.add (len n ver org : Int) : ∀ (rs : List Rw), Mx rs → Mx (addRow rs len n ver org)
  | [], h => by
    unfold addRow
    split
    · trivial
    · trivial
  | [r], h => by
    by_cases hn : n = 0
    · subst hn; rw [addRow_zero]; trivial
    · rw [show [r] = [] ++ [r] from rfl, addRow_append _ _ _ _ _ _ hn]
      split
      · trivial
      · next hm => exact ⟨hm, trivial⟩
  | r :: s :: t, h => by
    rw [addRow_cons]
    obtain ⟨s', t', e, e1, e2⟩ := addRow_head s t len n ver org
    have ih := Mx.add len n ver org (s :: t) h.2
    rw [e] at ih ⊢
    exact ⟨by rw [e1, e2]; exact h.1, ih⟩

theorem Mx.rows (T : List Lt) : Mx (rowsOf T) := by
  induction T using snoc_ind with
  | h0 => trivial
  | h1 T l ih => rw [rowsOf_snoc]; exact Mx.add _ _ _ _ _ ih

theorem Mx.get : ∀ (rs : List Rw) (k : Nat) (h : k + 1 < rs.length), Mx rs → ¬ (rs[k].ver = rs[k + 1].ver ∧ rs[k].org + rs[k].n = rs[k + 1].org)
  | [], k, h, _ => by simp at h
  | [r], k, h, _ => by simp at h
  | r :: s :: t, 0, h, hm => hm.1
  | r :: s :: t, k + 1, h, hm => Mx.get (s :: t) k (by simpa using h) hm.2

/-- The sum of a version. -/
def shareZ (v : Int) : List Rw → Int
  | [] => 0
  | r :: rs => (if r.ver = v then r.n else 0) + shareZ v rs
def uptoZ (v : Int) : List Rw → Int
  | [] => 0
  | r :: rs => (if r.ver < v then r.n else 0) + uptoZ v rs
def sumR : List Rw → Int
  | [] => 0
  | r :: rs => r.n + sumR rs

theorem shareZ_nn {v : Int} {rs : List Rw} (h : ∀ r ∈ rs, 1 ≤ r.n) : 0 ≤ shareZ v rs ∧ shareZ v rs ≤ sumR rs := by
  induction rs with
  | nil => simp [shareZ, sumR]
  | cons r rs ih =>
    have a := ih (fun x hx => h x (by simp [hx]))
    have b := h r (by simp)
    simp only [shareZ, sumR]
    split <;> omega

theorem uptoZ_nn {v : Int} {rs : List Rw} (h : ∀ r ∈ rs, 1 ≤ r.n) : 0 ≤ uptoZ v rs ∧ uptoZ v rs ≤ sumR rs := by
  induction rs with
  | nil => simp [uptoZ, sumR]
  | cons r rs ih =>
    have a := ih (fun x hx => h x (by simp [hx]))
    have b := h r (by simp)
    simp only [uptoZ, sumR]
    split <;> omega

theorem uptoZ_succ (v : Int) (rs : List Rw) : uptoZ (v + 1) rs = uptoZ v rs + shareZ v rs := by
  induction rs with
  | nil => simp [uptoZ, shareZ]
  | cons r rs ih =>
    simp only [uptoZ, shareZ, ih]
    by_cases h1 : r.ver < v
    · rw [if_pos (by omega), if_pos h1, if_neg (by omega)]; omega
    · by_cases h2 : r.ver = v
      · rw [if_pos (by omega), if_neg h1, if_pos h2]; omega
      · rw [if_neg (by omega), if_neg h1, if_neg h2]; omega

theorem uptoZ_zero {v : Int} {rs : List Rw} (h : ∀ r ∈ rs, v ≤ r.ver) : uptoZ v rs = 0 := by
  induction rs with
  | nil => rfl
  | cons r rs ih =>
    have := h r (by simp)
    simp only [uptoZ, ih (fun x hx => h x (by simp [hx]))]
    rw [if_neg (by omega)]; rfl
theorem uptoZ_all {v : Int} {rs : List Rw} (h : ∀ r ∈ rs, r.ver < v) : uptoZ v rs = sumR rs := by
  induction rs with
  | nil => rfl
  | cons r rs ih =>
    have := h r (by simp)
    simp only [uptoZ, sumR, ih (fun x hx => h x (by simp [hx]))]
    rw [if_pos (by omega)]
theorem shareZ_zero {v : Int} {rs : List Rw} (h : ∀ r ∈ rs, r.ver ≠ v) : shareZ v rs = 0 := by
  induction rs with
  | nil => rfl
  | cons r rs ih =>
    simp only [shareZ, ih (fun x hx => h x (by simp [hx]))]
    rw [if_neg (h r (by simp))]; rfl

theorem share_fold (v : Int) : ∀ (rs : List Rw) (n : Int), (∀ r ∈ rs, 1 ≤ r.n) → 0 ≤ n → n + sumR rs ≤ 9223372036854775807 → rs.foldl (fun n r => if r.ver = v then wrap64 (n + r.n) else n) n = n + shareZ v rs
  | [], n, h, h0, h1 => by simp [shareZ]
  | r :: rs, n, h, h0, h1 => by
    have a := h r (by simp)
    have b := (shareZ_nn (v := v) (rs := rs) (fun x hx => h x (by simp [hx]))).2
    have b0 := (shareZ_nn (v := v) (rs := rs) (fun x hx => h x (by simp [hx]))).1
    simp only [sumR] at h1
    simp only [List.foldl_cons, shareZ]
    by_cases hv : r.ver = v
    · rw [if_pos hv, if_pos hv, IntWalk.wrap64_in _ (by omega), share_fold v rs (n + r.n) (fun x hx => h x (by simp [hx])) (by omega) (by omega)]
      omega
    · rw [if_neg hv, if_neg hv, share_fold v rs n (fun x hx => h x (by simp [hx])) h0 (by omega)]
      omega

theorem share_eq (v : Int) (rs : List Rw) (h : ∀ r ∈ rs, 1 ≤ r.n) (h1 : sumR rs ≤ 9223372036854775807) : share v rs = shareZ v rs := by
  unfold share
  rw [share_fold v rs 0 h (by omega) (by omega)]
  omega

theorem Cv.sum : ∀ (rs : List Rw) (p : Int) (T : List Lt), Cv p rs T → sumR rs = T.length
  | [], p, T, h => by have : T = [] := h; subst this; rfl
  | r :: rs, p, T, h => by
    obtain ⟨h1, h2, T', rfl, h4⟩ := h
    have := Cv.sum rs _ T' h4
    simp only [sumR, this, List.length_append, run_len]
    omega

theorem Cv.mem : ∀ (rs : List Rw) (p : Int) (T : List Lt), Cv p rs T → ∀ r ∈ rs, 1 ≤ r.n ∧ ∀ i : Nat, (i : Int) < r.n → (⟨r.ver, r.org + (i : Int)⟩ : Lt) ∈ T
  | [], p, T, h => by intro r hr; simp at hr
  | r :: rs, p, T, h => by
    obtain ⟨h1, h2, T', rfl, h4⟩ := h
    intro x hx
    rcases List.mem_cons.1 hx with rfl | hx
    · exact ⟨h2, fun i hi => List.mem_append_left _ (List.mem_map.2 ⟨i, List.mem_range.2 (by omega), rfl⟩)⟩
    · have := Cv.mem rs _ T' h4 x hx
      exact ⟨this.1, fun i hi => List.mem_append_right _ (this.2 i hi)⟩

/-- The letters' versions and offsets exist. -/
def LV (G : List Int) (i : Int) (T : List Lt) : Prop := ∀ l ∈ T, 0 ≤ l.ver ∧ l.ver ≤ i ∧ 0 ≤ l.org ∧ l.org < G.getD l.ver.toNat 0

theorem applyC_mem (ln : Int → Int) (ver : Int) (T : List Lt) : ∀ (cs : List Chg) (a : Int) (out : List Lt), (∀ l ∈ out, l ∈ T ∨ (l.ver = ver ∧ 0 ≤ l.org ∧ l.org < out.length)) → ∀ l ∈ applyC ln ver T a out cs, l ∈ T ∨ (l.ver = ver ∧ 0 ≤ l.org ∧ l.org < (applyC ln ver T a out cs).length)
  | [], a, out, h => by
    unfold applyC
    intro l hl
    rcases List.mem_append.1 hl with hl | hl
    · rcases h l hl with g | ⟨g1, g2, g3⟩
      · exact .inl g
      · exact .inr ⟨g1, g2, by rw [List.length_append]; omega⟩
    · exact .inl (List.mem_of_mem_drop hl)
  | c :: r, a, out, h => by
    unfold applyC
    refine applyC_mem ln ver T r _ _ ?_
    intro l hl
    rcases List.mem_append.1 hl with hl | hl
    · rcases List.mem_append.1 hl with hl | hl
      · rcases h l hl with g | ⟨g1, g2, g3⟩
        · exact .inl g
        · exact .inr ⟨g1, g2, by rw [List.length_append, List.length_append]; omega⟩
      · exact .inl (List.mem_of_mem_take (List.mem_of_mem_drop hl))
    · obtain ⟨i, hi, rfl⟩ := List.mem_map.1 hl
      have := List.mem_range.1 hi
      generalize out ++ sl T a c.at_ = U
      exact .inr ⟨rfl, by dsimp only; omega, by rw [List.length_append, run_len]; dsimp only; omega⟩

/-- What valid patches lead to. -/
theorem VOk.of {L : List Ent} (hO : SOk L) (G : List Int) : ∀ (out : List (List Chg)) (ls : List Int) (i : Nat) (T : List Lt), VOk L out ls → ls.head? = some (T.length : Int) → (∀ j, ls[j]? = G[i + j]?) → LV G i T →
    ∃ F, ofR L i T out = (0, F) ∧ ofB L i T out ∧ LV G ((i : Int) + out.length) F ∧ ls.getLast? = some (F.length : Int)
  | [], ls, i, T, h, hh, hG, hv => by
    obtain ⟨l, rfl, g1, g2⟩ := h
    simp at hh
    exact ⟨T, rfl, by show (T.length : Int) ≤ _; omega, by simpa using hv, by simp [hh]⟩
  | cs :: r, ls, i, T, h, hh, hG, hv => by
    obtain ⟨l, m, rfl, g1, g2, g3, g4, g5⟩ := h
    simp at hh
    subst hh
    obtain ⟨hkn, hfm⟩ := patchErr_zero g3
    have hln : ∀ c ∈ cs, 0 ≤ lnL L c.text := fun c hc => (hO.at _ (hkn c hc).1).1.len0
    have hle := applyC_len_eq (ver := (i : Int) + 1) hfm hln
    rw [← hle] at g4
    have hmG : ∀ j, m[j]? = G[i + 1 + j]? := by intro j; have := hG (j + 1); rw [List.getElem?_cons_succ] at this; rw [this]; congr 1; omega
    have hGi : G.getD (i + 1) 0 = ((applyC (lnL L) ((i : Int) + 1) T 0 [] cs).length : Int) := by
      have := hmG 0
      rw [← List.head?_eq_getElem?, g4] at this
      rw [List.getD_eq_getElem?_getD, ← this]; rfl
    have hv' : LV G ((i + 1 : Nat) : Int) (applyC (lnL L) ((i : Int) + 1) T 0 [] cs) := by
      intro l hl
      rcases applyC_mem (lnL L) ((i : Int) + 1) T cs 0 [] (fun l hl => by simp at hl) l hl with g | ⟨k1, k2, k3⟩
      · have := hv l g
        exact ⟨this.1, by omega, this.2.2⟩
      · refine ⟨by omega, by omega, k2, ?_⟩
        rw [k1, show ((i : Int) + 1).toNat = i + 1 by omega, hGi]
        exact k3
    obtain ⟨F, e1, e2, e3, e4⟩ := VOk.of hO G r m (i + 1) (applyC (lnL L) ((i : Int) + 1) T 0 [] cs) g5 g4 hmG hv'
    refine ⟨F, ?_, ⟨by omega, fun _ => e2⟩, ?_, ?_⟩
    · unfold ofR
      rw [if_neg (by simp [g3])]
      exact e1
    · have : ((i + 1 : Nat) : Int) + r.length = (i : Int) + (cs :: r).length := by simp; omega
      rw [← this]; exact e3
    · have hne : m ≠ [] := by rintro rfl; simp at g4
      obtain ⟨y, m', rfl⟩ : ∃ y m', m = y :: m' := by cases m with | nil => exact absurd rfl hne | cons y m' => exact ⟨y, m', rfl⟩
      rw [List.getLast?_cons_cons]; exact e4

theorem wsum_le (pss : List (List Chg)) : wsum pss = 2 * tot pss + pss.length := by
  induction pss with
  | nil => rfl
  | cons x r ih => simp only [wsum, tot, ih, List.length_cons]; omega

theorem LV.start {n : Nat} {G : List Int} (h : G.head? = some (n : Int)) : LV G 0 (run n 0 0) := by
  intro l hl
  obtain ⟨i, hi, rfl⟩ := List.mem_map.1 hl
  have := List.mem_range.1 hi
  cases G with
  | nil => simp at h
  | cons y m =>
    simp at h
    subst h
    refine ⟨by simp, by simp, by simp, ?_⟩
    simp; omega

/-- What the rows say. -/
theorem rows_good {G : List Int} {n : Int} {T : List Lt} (h : LV G n T) : ∀ r ∈ rowsOf T, 1 ≤ r.n ∧ 0 ≤ r.ver ∧ r.ver ≤ n ∧ 0 ≤ r.org ∧ r.org ≤ G.getD r.ver.toNat 0 - r.n := by
  intro r hr
  obtain ⟨h1, h2⟩ := Cv.mem _ _ _ (Cv.rows T) r hr
  have a := h _ (h2 0 (by omega))
  have b := h _ (h2 (r.n - 1).toNat (by omega))
  simp only at a b
  exact ⟨h1, a.1, a.2.1, by omega, by omega⟩

end Go.Proofs.Ytbokcmkbnkncoaa

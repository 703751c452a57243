/- Depths and lengths of balanced texts, and the walk of balance.Concat. -/
import Derived.Test.YtodmpcnpedpheaaDoorQSpl1
set_option linter.unusedSimpArgs false
set_option linter.unusedVariables false
namespace Go.Proofs.YtodmpcnpedpheaaDoor
open Go.RowKit

/-- The least length of a balanced text of a depth. -/
def lst : Nat → Nat
  | 0 => 1
  | 1 => 2
  | n + 2 => lst (n + 1) + lst n

theorem lst_pos : ∀ n, 1 ≤ lst n
  | 0 => by simp [lst]
  | 1 => by simp [lst]
  | n + 2 => by have := lst_pos (n + 1); simp only [lst]; omega
theorem lst_step (n : Nat) : lst n ≤ lst (n + 1) := by
  cases n with
  | zero => simp [lst]
  | succ n => simp only [lst]; omega
theorem lst_mono {a b : Nat} (h : a ≤ b) : lst a ≤ lst b := by
  induction b with
  | zero => have : a = 0 := by omega
            subst this; exact Nat.le_refl _
  | succ b ih =>
    by_cases e : a = b + 1
    · subst e; exact Nat.le_refl _
    · exact Nat.le_trans (ih (by omega)) (lst_step b)

theorem bal_lst {L : List Ent} (hd : DOk L) (hs : SOk L) : ∀ (n : Nat) (id : Int) (t : List Int) (d : Int), d.toNat < n → Bal L id t d → lst d.toNat ≤ t.length := by
  intro n
  induction n with
  | zero => intro id t d h; omega
  | succ n ih =>
    intro id t d hn hb
    have d0 : 0 ≤ d := by have := (hs.at id hb.known).2.1; rw [hb.depth] at this; exact this
    by_cases h : d = 0
    · have := bal_one hd hs hb h
      subst h
      rw [this]; exact Nat.le_refl _
    · obtain ⟨l, r, tl, tr, dl, dr, hru, hbl, hbr, hst, hdd, hd1, hd2⟩ := bal_parts hd hb (by omega)
      have dl0 : 0 ≤ dl := by have := (hs.at l hbl.known).2.1; rw [hbl.depth] at this; exact this
      have dr0 : 0 ≤ dr := by have := (hs.at r hbr.known).2.1; rw [hbr.depth] at this; exact this
      have i1 := ih l tl dl (by omega) hbl
      have i2 := ih r tr dr (by omega) hbr
      rw [hst, List.length_append]
      by_cases e : d = 1
      · have := lst_pos dl.toNat
        have := lst_pos dr.toNat
        subst e
        show 2 ≤ _
        omega
      · obtain ⟨m, hm⟩ : ∃ m : Nat, d.toNat = m + 2 := ⟨d.toNat - 2, by omega⟩
        rw [hm]
        simp only [lst]
        have h1 : lst m ≤ lst (min dl dr).toNat := lst_mono (by omega)
        have h2 : lst (m + 1) ≤ lst (max dl dr).toNat := lst_mono (by omega)
        by_cases c : dl ≤ dr
        · rw [show min dl dr = dl by omega] at h1
          rw [show max dl dr = dr by omega] at h2
          omega
        · rw [show min dl dr = dr by omega] at h1
          rw [show max dl dr = dl by omega] at h2
          omega

/-- A text that is shorter than the least one of depth D + 1 has at most depth D. -/
theorem BalZ.deep {L : List Ent} {id : Int} {t : List Int} {d : Int} (h : BalZ L id t d) (hd : DOk L) (hs : SOk L) {D : Nat} (hD : t.length < lst (D + 1)) : 0 ≤ d ∧ d ≤ D := by
  have d0 : 0 ≤ d := by have := (hs.at id h.known).2.1; rw [h.depth] at this; exact this
  refine ⟨d0, ?_⟩
  by_cases e : id = 0
  · have := (h.of0 e).2; omega
  · have h1 := bal_lst hd hs (d.toNat + 1) id t d (by omega) (h.bal e)
    by_cases c : d ≤ D
    · exact c
    · have : lst (D + 1) ≤ lst d.toNat := lst_mono (by omega)
      omega

/-- IDs of texts. -/
def AllB (L : List Ent) : List Int → List (List Int) → Prop
  | [], [] => True
  | id :: ids, t :: ts => (∃ d, BalZ L id t d) ∧ AllB L ids ts
  | _, _ => False

theorem AllB.len {L : List Ent} : ∀ {ids : List Int} {ts : List (List Int)}, AllB L ids ts → ids.length = ts.length
  | [], [], _ => rfl
  | _ :: ids, _ :: ts, h => by simp [AllB.len h.2]
theorem AllB.get {L : List Ent} : ∀ {ids : List Int} {ts : List (List Int)}, AllB L ids ts → ∀ (i : Nat) (h1 : i < ids.length) (h2 : i < ts.length), ∃ d, BalZ L ids[i] ts[i] d
  | _ :: ids, _ :: ts, h, 0, _, _ => h.1
  | _ :: ids, _ :: ts, h, i + 1, h1, h2 => by
    have := AllB.get h.2 i (by simpa using h1) (by simpa using h2)
    simpa using this
theorem AllB.more {L L' : List Ent} {n : Nat} (hg : Grows L L' n) (hd : DOk L) : ∀ {ids : List Int} {ts : List (List Int)}, AllB L ids ts → AllB L' ids ts
  | [], [], _ => trivial
  | _ :: ids, _ :: ts, h => ⟨by obtain ⟨d, hb⟩ := h.1; exact ⟨d, hg.balz hd hb⟩, AllB.more hg hd h.2⟩
theorem AllB.snoc {L : List Ent} : ∀ {ids : List Int} {ts : List (List Int)}, AllB L ids ts → ∀ {id : Int} {t : List Int} {d : Int}, BalZ L id t d → AllB L (ids ++ [id]) (ts ++ [t])
  | [], [], _, _, _, _, hb => ⟨⟨_, hb⟩, trivial⟩
  | _ :: ids, _ :: ts, h, _, _, _, hb => ⟨h.1, AllB.snoc h.2 hb⟩
theorem AllB.append {L : List Ent} : ∀ {ids ids' : List Int} {ts ts' : List (List Int)}, AllB L ids ts → AllB L ids' ts' → AllB L (ids ++ ids') (ts ++ ts')
  | [], _, [], _, _, h' => h'
  | _ :: ids, _, _ :: ts, _, h, h' => ⟨h.1, AllB.append h.2 h'⟩

theorem flat_take (ts : List (List Int)) (k : Nat) (h : k < ts.length) : (ts.take (k + 1)).flatten = (ts.take k).flatten ++ ts[k] := by
  rw [List.take_succ_eq_append_getElem h, List.flatten_append]; simp
theorem flat_le (ts : List (List Int)) (k : Nat) : (ts.take k).flatten.length ≤ ts.flatten.length := by
  conv => rhs; rw [← List.take_append_drop k ts]
  rw [List.flatten_append, List.length_append]; omega

/-- The lengths of IDs. -/
def lenOf (L : List Ent) (id : Int) : Int := (entAt L id).wt.len

theorem sum_lens {L : List Ent} (hd : DOk L) (hs : SOk L) : ∀ {ids : List Int} {ts : List (List Int)}, AllB L ids ts → sumI (ids.map (lenOf L)) = ts.flatten.length
  | [], [], _ => rfl
  | id :: ids, t :: ts, h => by
    obtain ⟨d, hb⟩ := h.1
    have := sum_lens hd hs h.2
    have hl := hb.len hd hs
    simp only [List.map_cons, sumI, List.flatten_cons, List.length_append, lenOf, this]
    omega
theorem lens_nn {L : List Ent} (hd : DOk L) (hs : SOk L) : ∀ {ids : List Int} {ts : List (List Int)}, AllB L ids ts → ∀ x ∈ ids.map (lenOf L), 0 ≤ x
  | [], [], _, x, hx => by simp at hx
  | id :: ids, t :: ts, h, x, hx => by
    obtain ⟨d, hb⟩ := h.1
    have hl := hb.len hd hs
    simp only [List.map_cons, List.mem_cons] at hx
    rcases hx with rfl | hx
    · unfold lenOf; omega
    · exact lens_nn hd hs h.2 x hx

/-- The state of Concat's second loop. -/
structure ConR (B : Nat) (w wr : World) (p mb : Nat) (most : Int) (L : List Ent) (t : List Int) (D k : Nat) (id : Int) (L' : List Ent) : Prop where
  st : Sto B wr p mb most L'
  kp : Kp B mb w wr
  grows : Grows L L' (k * (3 * D + 1))
  bal : ∃ d, BalZ L' id t d

end Go.Proofs.YtodmpcnpedpheaaDoor

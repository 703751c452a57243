/- Plain words: the changes between a text and letters that remember it; pieces; what they lead to. No program. -/
import Derived.Test.YtclpndigmidjkaaGreatQRd0
set_option linter.unusedSimpArgs false
set_option linter.unusedVariables false
namespace Go.Proofs.YtclpndigmidjkaaGreat
open Go.RowKit

/-- A change, if there is one. -/
def chgIf (next from_ : Int) (tx : List Int) : List PC := if next < from_ ∨ tx ≠ [] then [⟨next, from_ - next, tx⟩] else []

theorem chgIf_yes {next from_ : Int} {tx : List Int} (h : next < from_ ∨ tx ≠ []) : chgIf next from_ tx = [⟨next, from_ - next, tx⟩] := if_pos h
theorem chgIf_no {next from_ : Int} {tx : List Int} (h : ¬ (next < from_ ∨ tx ≠ [])) : chgIf next from_ tx = [] := if_neg h

/-- The changes that lead from a text of a length to letters. -/
def btw (len : Int) : Int → List Int → List (Int × Int) → List PC
  | next, tx, [] => chgIf next len tx
  | next, tx, c :: r => if c.2 < 0 then btw len next (tx ++ [c.1]) r else chgIf next c.2 tx ++ btw len (c.2 + 1) [] r

/-- The same over pieces. -/
def btwP (len : Int) (tx_ : Int → List Int) : Int → List Int → List Pm → List PC
  | next, tx, [] => chgIf next len tx
  | next, tx, x :: r => if x.text ≠ 0 then btwP len tx_ next (tx ++ cutL (tx_ x.text) x.from_ x.n) r else chgIf next x.from_ tx ++ btwP len tx_ (x.from_ + x.n) [] r

theorem btw_ins (len next : Int) : ∀ (t tx : List Int) (r : List (Int × Int)), btw len next tx (t.map embC ++ r) = btw len next (tx ++ t) r
  | [], tx, r => by simp
  | a :: t, tx, r => by
    have ih := btw_ins len next t (tx ++ [a]) r
    rw [List.map_cons, List.cons_append, btw, if_pos (show (embC a).2 < 0 by simp [embC])]
    show btw len next (tx ++ [a]) (t.map embC ++ r) = _
    rw [ih, List.append_assoc]; rfl

theorem runC_succ (f : Int) (n : Nat) : runC f (n + 1) = (63, f) :: runC (f + 1) n := by
  unfold runC
  rw [List.range_succ_eq_map, List.map_cons, List.map_map]
  congr 1
  · simp
  · apply List.map_congr_left
    intro i _
    simp only [Function.comp]
    congr 1
    omega

theorem btw_run' (len : Int) : ∀ (n : Nat) (f : Int) (r : List (Int × Int)), 0 ≤ f → btw len f [] (runC f n ++ r) = btw len (f + n) [] r
  | 0, f, r, h => by simp [runC]
  | n + 1, f, r, h => by
    have ih := btw_run' len n (f + 1) r (by omega)
    rw [runC_succ, List.cons_append, btw, if_neg (show ¬ ((63, f) : Int × Int).2 < 0 by show ¬ f < 0; omega)]
    show chgIf f f [] ++ btw len (f + 1) [] (runC (f + 1) n ++ r) = _
    rw [ih, chgIf_no (by simp), List.nil_append]
    congr 1
    omega

theorem btw_run (len next : Int) (tx : List Int) (n : Nat) (f : Int) (r : List (Int × Int)) (h : 0 ≤ f) (hn : 0 < n) : btw len next tx (runC f n ++ r) = chgIf next f tx ++ btw len (f + n) [] r := by
  obtain ⟨m, rfl⟩ : ∃ m, n = m + 1 := ⟨n - 1, by omega⟩
  rw [runC_succ, List.cons_append, btw, if_neg (show ¬ ((63, f) : Int × Int).2 < 0 by show ¬ f < 0; omega)]
  show chgIf next f tx ++ btw len (f + 1) [] (runC (f + 1) m ++ r) = _
  rw [btw_run' len m (f + 1) r (by omega)]
  congr 2
  omega

/-- Pieces lead to the same changes as their letters. -/
theorem btwP_flat (MT : Nat) (L : List Ent) (len : Int) : ∀ (xs : List Pm) (next : Int) (tx : List Int), (∀ x ∈ xs, POk MT L x ∧ 0 < x.n) → btwP len (txt L) next tx xs = btw len next tx (flatP (txt L) xs)
  | [], next, tx, _ => rfl
  | x :: r, next, tx, h => by
    have hx := h x (by simp)
    have f0 := hx.1.f0
    rw [flatP_cons]
    unfold btwP clP
    by_cases h0 : x.text = 0
    · rw [if_neg (by simpa using h0), if_pos h0, btw_run len next tx _ _ _ f0 (by have := hx.2; omega), btwP_flat MT L len r _ _ (fun y hy => h y (by simp [hy]))]
      congr 2
      have := hx.2
      omega
    · rw [if_pos h0, if_neg h0, btw_ins, btwP_flat MT L len r _ _ (fun y hy => h y (by simp [hy]))]

/-- The whole text as one piece. -/
theorem btwP_one (L : List Ent) (len : Int) : btwP len (txt L) 0 [] [⟨0, 0, len⟩] = [] := by
  simp [btwP, chgIf]

/-- Only where the letters were, and the new letters, matter. -/
theorem btw_map (len : Int) (g : Int × Int → Int × Int) (h1 : ∀ c, (g c).2 = c.2) (h2 : ∀ c, c.2 < 0 → g c = c) : ∀ (F : List (Int × Int)) (next : Int) (tx : List Int), btw len next tx (F.map g) = btw len next tx F
  | [], _, _ => rfl
  | c :: r, next, tx => by
    simp only [List.map_cons, btw, h1, btw_map len g h1 h2 r]
    by_cases h : c.2 < 0
    · rw [if_pos h, if_pos h, h2 c h]
    · rw [if_neg h, if_neg h]

/-- The kept letters, in order, from an offset on and before a length. -/
def keptF (F : List (Int × Int)) : List Int := (F.filter fun c => decide (0 ≤ c.2)).map Prod.snd

theorem keptF_app (a b : List (Int × Int)) : keptF (a ++ b) = keptF a ++ keptF b := by simp [keptF]
theorem keptF_ins (t : List Int) : keptF (t.map embC) = [] := by
  unfold keptF
  rw [List.filter_eq_nil_iff.2]
  · rfl
  · intro c hc
    obtain ⟨x, _, rfl⟩ := List.mem_map.1 hc
    simp [embC]
theorem keptF_neg {c : Int × Int} {r : List (Int × Int)} (h : c.2 < 0) : keptF (c :: r) = keptF r := by
  unfold keptF
  rw [List.filter_cons, if_neg (by simp; omega)]
theorem keptF_pos {c : Int × Int} {r : List (Int × Int)} (h : ¬ c.2 < 0) : keptF (c :: r) = c.2 :: keptF r := by
  unfold keptF
  rw [List.filter_cons, if_pos (by simp; omega), List.map_cons]

/-- Letters that remember a text of a length, from an offset on. -/
structure Mem (n next : Int) (F : List (Int × Int)) : Prop where
  ord : (keptF F).Pairwise (· < ·)
  rng : ∀ k ∈ keptF F, next ≤ k ∧ k < n

theorem Mem.neg {n next : Int} {c : Int × Int} {r : List (Int × Int)} (h : Mem n next (c :: r)) (hc : c.2 < 0) : Mem n next r := ⟨by have := h.ord; rw [keptF_neg hc] at this; exact this, by have := h.rng; rw [keptF_neg hc] at this; exact this⟩
theorem Mem.pos {n next : Int} {c : Int × Int} {r : List (Int × Int)} (h : Mem n next (c :: r)) (hc : ¬ c.2 < 0) : next ≤ c.2 ∧ c.2 < n ∧ Mem n (c.2 + 1) r := by
  have h1 := h.ord
  have h2 := h.rng
  rw [keptF_pos hc] at h1 h2
  have h3 := List.pairwise_cons.1 h1
  refine ⟨(h2 _ (by simp)).1, (h2 _ (by simp)).2, h3.2, fun k hk => ⟨?_, (h2 k (by simp [hk])).2⟩⟩
  have := h3.1 k hk
  omega

/-- The changes are a patch. -/
theorem btw_valid (n : Int) : ∀ (F : List (Int × Int)) (next last : Int) (tx : List Int), Mem n next F → 0 ≤ next → next ≤ n → last < next → validP n last (btw n next tx F) = true
  | [], next, last, tx, h, h0, h1, h2 => by
    rw [btw]
    by_cases hc : next < n ∨ tx ≠ []
    · rw [chgIf_yes hc, validP, validP, Bool.and_true]
      refine decide_eq_true ⟨h0, by show 0 ≤ n - next; omega, by show next + (n - next) ≤ n; omega, h2, fun h => ?_⟩
      have e1 : n - next = 0 := h.1
      have e2 : tx = [] := h.2
      rcases hc with hc | hc
      · omega
      · exact hc e2
    · rw [chgIf_no hc]; rfl
  | c :: r, next, last, tx, h, h0, h1, h2 => by
    rw [btw]
    by_cases hc : c.2 < 0
    · rw [if_pos hc]
      exact btw_valid n r next last _ (h.neg hc) h0 h1 h2
    · rw [if_neg hc]
      obtain ⟨p1, p2, p3⟩ := h.pos hc
      by_cases hi : next < c.2 ∨ tx ≠ []
      · rw [chgIf_yes hi, List.cons_append, List.nil_append, validP, Bool.and_eq_true]
        refine ⟨decide_eq_true ⟨h0, by show 0 ≤ c.2 - next; omega, by show next + (c.2 - next) ≤ n; omega, h2, fun h => ?_⟩, ?_⟩
        · have e1 : c.2 - next = 0 := h.1
          have e2 : tx = [] := h.2
          rcases hi with hi | hi
          · omega
          · exact hi e2
        · exact btw_valid n r (c.2 + 1) _ [] p3 (by omega) (by omega) (by show next + (c.2 - next) < _; omega)
      · rw [chgIf_no hi, List.nil_append]
        exact btw_valid n r (c.2 + 1) last [] p3 (by omega) (by omega) (by omega)

/-- The letters that a text of its own gives to the kept ones. -/
def fillC (t : List Int) (c : Int × Int) : Int × Int := if c.2 < 0 then c else (t.getD c.2.toNat 0, c.2)

theorem fillC_2 (t : List Int) (c : Int × Int) : (fillC t c).2 = c.2 := by unfold fillC; split <;> rfl
theorem fillC_neg (t : List Int) (c : Int × Int) (h : c.2 < 0) : fillC t c = c := if_pos h
theorem fillC_emb (t : List Int) (x : Int) : fillC t (embC x) = embC x := fillC_neg t _ (by simp [embC])

theorem fill_run (t : List Int) : (runC 0 t.length).map (fillC t) = cellsOf t := by
  unfold runC cellsOf cellsK
  rw [List.map_map]
  apply List.map_congr_left
  intro i hi
  have hi' := List.mem_range.1 hi
  simp only [Function.comp]
  unfold fillC
  rw [if_neg (by show ¬ (0 + (i : Int)) < 0; omega)]
  show (t.getD (0 + (i : Int)).toNat 0, 0 + (i : Int)) = _
  rw [show (0 + (i : Int)).toNat = i by omega, Int.zero_add]

/-- What the changes lead to. -/
theorem btw_leads (t : List Int) : ∀ (F : List (Int × Int)) (f next : Int) (tx : List Int), Mem t.length next F → 0 ≤ f → f ≤ next → next ≤ t.length → patG id t f (btw t.length next tx F) = (t.drop f.toNat).take (next - f).toNat ++ (tx ++ (F.map (fillC t)).map Prod.fst)
  | [], f, next, tx, h, h0, h1, h2 => by
    rw [btw, List.map_nil, List.map_nil, List.append_nil]
    by_cases hc : next < (t.length : Int) ∨ tx ≠ []
    · rw [chgIf_yes hc]
      show _ ++ (tx.map id ++ t.drop (next + ((t.length : Int) - next)).toNat) = _
      have e : t.drop (next + ((t.length : Int) - next)).toNat = [] := List.drop_of_length_le (by omega)
      rw [List.map_id, e, List.append_nil]
    · rw [chgIf_no hc]
      have e1 : next = t.length := by
        rcases Int.lt_or_le next (t.length : Int) with h | h
        · exact absurd (.inl h) hc
        · omega
      have e2 : tx = [] := by
        cases tx with
        | nil => rfl
        | cons a b => exact absurd (.inr (by simp)) hc
      rw [e2, List.append_nil, List.take_of_length_le (by rw [List.length_drop]; omega)]
      rfl
  | c :: r, f, next, tx, h, h0, h1, h2 => by
    rw [btw, List.map_cons, List.map_cons]
    by_cases hc : c.2 < 0
    · rw [if_pos hc, btw_leads t r f next _ (h.neg hc) h0 h1 h2, fillC_neg t c hc, List.append_assoc]
      rfl
    · rw [if_neg hc]
      obtain ⟨p1, p2, p3⟩ := h.pos hc
      have hk : c.2.toNat < t.length := by omega
      have e1 : (fillC t c).1 = t[c.2.toNat] := by
        unfold fillC
        rw [if_neg hc, List.getD_eq_getElem?_getD, List.getElem?_eq_getElem hk]; rfl
      rw [e1]
      by_cases hi : next < c.2 ∨ tx ≠ []
      · rw [chgIf_yes hi, List.cons_append, List.nil_append, patG, List.map_id]
        show _ ++ (tx ++ patG id t (next + (c.2 - next)) _) = _
        rw [show next + (c.2 - next) = c.2 by omega, btw_leads t r c.2 (c.2 + 1) [] p3 (by omega) (by omega) (by omega), show (c.2 + 1 - c.2).toNat = 1 by omega, List.drop_eq_getElem_cons hk]
        rfl
      · rw [chgIf_no hi, List.nil_append]
        have e2 : next = c.2 := by
          rcases Int.lt_or_le next c.2 with h | h
          · exact absurd (.inl h) hi
          · omega
        have e3 : tx = [] := by
          cases tx with
          | nil => rfl
          | cons a b => exact absurd (.inr (by simp)) hi
        rw [btw_leads t r f (c.2 + 1) [] p3 h0 (by omega) (by omega), e2, e3, List.nil_append, List.nil_append, show (c.2 + 1 - f).toNat = (c.2 - f).toNat + 1 by omega, List.take_add_one, List.getElem?_drop, show f.toNat + (c.2 - f).toNat = c.2.toNat by omega, List.getElem?_eq_getElem hk, List.append_assoc]
        rfl

/-- What a patch keeps, it had. -/
theorem patG_kept (T : List (Int × Int)) : ∀ (ps : List PC) (f last : Int), validP T.length last ps = true → 0 ≤ f → f ≤ last + 1 → (keptF (patG embC T f ps)).Sublist (keptF (T.drop f.toNat))
  | [], f, last, _, _, _ => List.Sublist.refl _
  | c :: r, f, last, h, h0, h1 => by
    unfold validP at h
    rw [Bool.and_eq_true] at h
    obtain ⟨t1, t2, t3, t4, t5⟩ := fitP_true h.1
    have ih := patG_kept T r (c.at_ + c.n) (c.at_ + c.n) h.2 (by omega) (by omega)
    rw [patG, keptF_app, keptF_app, keptF_ins, List.nil_append]
    have e : T.drop f.toNat = (T.drop f.toNat).take (c.at_ - f).toNat ++ ((T.drop (f.toNat + (c.at_ - f).toNat)).take c.n.toNat ++ T.drop (c.at_ + c.n).toNat) := by
      conv => lhs; rw [← List.take_append_drop (c.at_ - f).toNat (T.drop f.toNat)]
      rw [List.drop_drop]
      congr 1
      conv => lhs; rw [← List.take_append_drop c.n.toNat (T.drop (f.toNat + (c.at_ - f).toNat))]
      rw [List.drop_drop]
      congr 2
      omega
    conv => rhs; rw [e]
    rw [keptF_app, keptF_app]
    exact List.Sublist.append (List.Sublist.refl _) (ih.trans (List.sublist_append_right _ _))

theorem Mem.pat {n : Int} {T : List (Int × Int)} {ps : List PC} (h : Mem n 0 T) (hv : validP T.length (-1) ps = true) : Mem n 0 (patG embC T 0 ps) := by
  have hs := patG_kept T ps 0 (-1) hv (by omega) (by omega)
  rw [Int.toNat_zero, List.drop_zero] at hs
  exact ⟨h.ord.sublist hs, fun k hk => h.rng k (hs.subset hk)⟩

theorem keptF_run (n : Nat) : keptF (runC 0 n) = (List.range n).map fun (i : Nat) => (i : Int) := by
  unfold keptF runC
  rw [List.filter_map, List.filter_eq_self.2, List.map_map]
  · apply List.map_congr_left
    intro i _
    simp [Function.comp]
  · intro i _
    simp only [Function.comp]
    exact decide_eq_true (by omega)

theorem Mem.run (n : Nat) : Mem n 0 (runC 0 n) := by
  constructor
  · rw [keptF_run, List.pairwise_map]
    exact List.pairwise_lt_range.imp (fun h => by omega)
  · intro k hk
    rw [keptF_run] at hk
    obtain ⟨i, hi, rfl⟩ := List.mem_map.1 hk
    have := List.mem_range.1 hi
    omega

/-- How long the texts of the changes are. -/
theorem btw_ins_le (len : Int) : ∀ (F : List (Int × Int)) (next : Int) (tx : List Int), insP (btw len next tx F) ≤ tx.length + F.length
  | [], next, tx => by
    rw [btw]
    unfold chgIf
    split <;> simp [insP]
  | c :: r, next, tx => by
    rw [btw]
    split
    · have := btw_ins_le len r next (tx ++ [c.1])
      simp only [List.length_append, List.length_cons, List.length_nil] at *
      omega
    · have := btw_ins_le len r (c.2 + 1) []
      rw [insP_split]
      have h2 : insP (chgIf next c.2 tx) ≤ tx.length := by unfold chgIf; split <;> simp [insP]
      simp only [List.length_cons, List.length_nil] at *
      omega
theorem insP_mem : ∀ (ps : List PC) (c : PC), c ∈ ps → c.text.length ≤ insP ps
  | x :: r, c, h => by
    rcases List.mem_cons.1 h with rfl | h
    · simp only [insP]; omega
    · have := insP_mem r c h; simp only [insP]; omega
theorem btw_len_le (len : Int) : ∀ (F : List (Int × Int)) (next : Int) (tx : List Int), (btw len next tx F).length ≤ F.length + 1
  | [], next, tx => by
    rw [btw]
    unfold chgIf
    split <;> simp
  | c :: r, next, tx => by
    rw [btw]
    split
    · have := btw_len_le len r next (tx ++ [c.1])
      simp only [List.length_cons]
      omega
    · have := btw_len_le len r (c.2 + 1) []
      rw [List.length_append]
      have h2 : (chgIf next c.2 tx).length ≤ 1 := by unfold chgIf; split <;> simp
      simp only [List.length_cons]
      omega

end Go.Proofs.YtclpndigmidjkaaGreat

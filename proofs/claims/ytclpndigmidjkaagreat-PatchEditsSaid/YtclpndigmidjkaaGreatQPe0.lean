/- Plain words: edits of a text one after the other. No program. -/
import Derived.Test.YtclpndigmidjkaaGreatQBtw0
set_option linter.unusedSimpArgs false
set_option linter.unusedVariables false
namespace Go.Proofs.YtclpndigmidjkaaGreat
open Go.RowKit

/-- An edit with a plain text. -/
structure EP where
  kind : Int
  at_ : Int
  n : Int
  to_ : Int
  text : List Int

def EP.formed (p : EP) : Bool := decide (p.to_ = 0 ∧ ((p.kind = 1 ∧ p.n = 0) ∨ (p.kind = 2 ∧ p.text = []) ∨ p.kind = 3))
def EP.fits (len : Int) (p : EP) : Bool := decide (0 ≤ p.at_ ∧ 0 ≤ p.n ∧ p.at_ + p.n ≤ len)
def EP.code (len : Int) (p : EP) : Int := if p.formed = true then (if p.fits len = true then 0 else 1) else 4
def EP.chg (p : EP) : List PC := if p.n = 0 ∧ p.text = [] then [] else [⟨p.at_, p.n, p.text⟩]

theorem EP.fits_of {len : Int} {p : EP} (h : p.code len = 0) : p.formed = true ∧ 0 ≤ p.at_ ∧ 0 ≤ p.n ∧ p.at_ + p.n ≤ len := by
  unfold EP.code at h
  split at h
  · next h1 =>
    split at h
    · next h2 => exact ⟨h1, of_decide_eq_true h2⟩
    · omega
  · omega

theorem EP.chg_valid {len : Int} {p : EP} (h : p.code len = 0) : validP len (-1) p.chg = true := by
  obtain ⟨_, h1, h2, h3⟩ := EP.fits_of h
  unfold EP.chg
  split
  · rfl
  · next hn =>
    rw [validP, validP, Bool.and_true]
    exact decide_eq_true ⟨h1, h2, h3, by show -1 < p.at_; omega, hn⟩

/-- One edit of letters; nothing happens behind an error. -/
def stS (s : List (Int × Int) × Int) (p : EP) : List (Int × Int) × Int := if s.2 ≠ 0 then s else if p.code s.1.length = 0 then (patG embC s.1 0 p.chg, 0) else (s.1, p.code s.1.length)
def runS (T : List (Int × Int)) (ps : List EP) : List (Int × Int) × Int := ps.foldl stS (T, 0)

theorem runS_snoc (T : List (Int × Int)) (ps : List EP) (k : Nat) (h : k < ps.length) : runS T (ps.take (k + 1)) = stS (runS T (ps.take k)) ps[k] := by
  unfold runS
  rw [List.take_succ_eq_append_getElem h, List.foldl_append]
  rfl

theorem foldl_stuck (s : List (Int × Int) × Int) (h : s.2 ≠ 0) : ∀ ps : List EP, ps.foldl stS s = s
  | [] => rfl
  | p :: r => by
    have e : stS s p = s := if_pos h
    rw [List.foldl_cons, e, foldl_stuck s h r]
/-- An error stays. -/
theorem runS_stuck (T : List (Int × Int)) (ps : List EP) (k : Nat) (h : (runS T (ps.take k)).2 ≠ 0) : runS T ps = runS T (ps.take k) := by
  conv => lhs; rw [← List.take_append_drop k ps]
  unfold runS at *
  rw [List.foldl_append, foldl_stuck _ h]

theorem stS_map (g : Int × Int → Int × Int) (hg : ∀ x, g (embC x) = embC x) (s : List (Int × Int) × Int) (p : EP) : stS (s.1.map g, s.2) p = ((stS s p).1.map g, (stS s p).2) := by
  unfold stS
  simp only [List.length_map]
  split
  · rfl
  · split
    · rw [patG_map g embC embC hg]
    · rfl
theorem runS_map (g : Int × Int → Int × Int) (hg : ∀ x, g (embC x) = embC x) (T : List (Int × Int)) (ps : List EP) : runS (T.map g) ps = ((runS T ps).1.map g, (runS T ps).2) := by
  unfold runS
  have : ∀ (ps : List EP) (s : List (Int × Int) × Int), ps.foldl stS (s.1.map g, s.2) = ((ps.foldl stS s).1.map g, (ps.foldl stS s).2) := by
    intro ps
    induction ps with
    | nil => intro s; rfl
    | cons p r ih => intro s; rw [List.foldl_cons, List.foldl_cons, stS_map g hg, ih]
  exact this ps (T, 0)

/-- The letters that are inserted. -/
def insE : List EP → Nat
  | [] => 0
  | p :: r => p.text.length + insE r

theorem stS_mem {n : Int} {s : List (Int × Int) × Int} (p : EP) (h : Mem n 0 s.1) : Mem n 0 (stS s p).1 ∧ (stS s p).1.length ≤ s.1.length + p.text.length := by
  unfold stS
  split
  · exact ⟨h, by omega⟩
  · split
    · next h0 =>
      have hv := EP.chg_valid h0
      refine ⟨h.pat hv, ?_⟩
      have := patG_len embC s.1 p.chg 0 (-1) hv (by omega) (by omega) (by omega)
      have hd := delP_nn hv
      have hi : insP p.chg ≤ p.text.length := by unfold EP.chg; split <;> simp [insP]
      show (patG embC s.1 0 p.chg).length ≤ _
      omega
    · exact ⟨h, by show s.1.length ≤ _; omega⟩
theorem foldl_mem {n : Int} : ∀ (ps : List EP) (s : List (Int × Int) × Int), Mem n 0 s.1 → Mem n 0 (ps.foldl stS s).1 ∧ (ps.foldl stS s).1.length ≤ s.1.length + insE ps
  | [], s, h => ⟨h, by simp [insE]⟩
  | p :: r, s, h => by
    obtain ⟨h1, h2⟩ := stS_mem p h
    obtain ⟨h3, h4⟩ := foldl_mem r _ h1
    rw [List.foldl_cons]
    refine ⟨h3, ?_⟩
    simp only [insE]
    omega
theorem runS_mem (n : Nat) (ps : List EP) : Mem n 0 (runS (runC 0 n) ps).1 ∧ (runS (runC 0 n) ps).1.length ≤ n + insE ps := by
  have := foldl_mem ps (runC 0 n, 0) (Mem.run n)
  rw [runC_len] at this
  exact this
theorem insE_split (a b : List EP) : insE (a ++ b) = insE a + insE b := by
  induction a with
  | nil => simp [insE]
  | cons x r ih => simp only [List.cons_append, insE, ih]; omega
theorem insE_take (ps : List EP) (k : Nat) : insE (ps.take k) ≤ insE ps := by
  have := insE_split (ps.take k) (ps.drop k)
  rw [List.take_append_drop] at this
  omega
theorem insE_le (ps : List EP) (M : Nat) (h : ∀ p ∈ ps, p.text.length ≤ M) : insE ps ≤ ps.length * M := by
  induction ps with
  | nil => simp [insE]
  | cons p r ih =>
    have := ih (fun q hq => h q (by simp [hq]))
    have := h p (by simp)
    simp only [insE, List.length_cons, Nat.add_mul, Nat.one_mul]
    omega

/-- Edits of a store. -/
structure Edt where
  kind : Int
  at_ : Int
  n : Int
  to_ : Int
  text : Int

def PEd (L : List Ent) : List Edt → List EP → Prop
  | [], [] => True
  | e :: es, p :: ps => (e.kind = p.kind ∧ e.at_ = p.at_ ∧ e.n = p.n ∧ e.to_ = p.to_ ∧ ∃ d, BalZ L e.text p.text d) ∧ PEd L es ps
  | _, _ => False

theorem PEd.len {L : List Ent} : ∀ {es : List Edt} {ps : List EP}, PEd L es ps → es.length = ps.length
  | [], [], _ => rfl
  | _ :: es, _ :: ps, h => by simp [PEd.len h.2]
theorem PEd.more {L L' : List Ent} {n : Nat} (hg : Grows L L' n) (hd : DOk L) : ∀ {es : List Edt} {ps : List EP}, PEd L es ps → PEd L' es ps
  | [], [], _ => trivial
  | _ :: es, _ :: ps, h => ⟨⟨h.1.1, h.1.2.1, h.1.2.2.1, h.1.2.2.2.1, by obtain ⟨d, hb⟩ := h.1.2.2.2.2; exact ⟨d, hg.balz hd hb⟩⟩, PEd.more hg hd h.2⟩
theorem PEd.snoc {L : List Ent} : ∀ {es : List Edt} {ps : List EP}, PEd L es ps → ∀ {e : Edt} {p : EP}, (e.kind = p.kind ∧ e.at_ = p.at_ ∧ e.n = p.n ∧ e.to_ = p.to_ ∧ ∃ d, BalZ L e.text p.text d) → PEd L (es ++ [e]) (ps ++ [p])
  | [], [], _, _, _, h => ⟨h, trivial⟩
  | _ :: es, _ :: ps, h, _, _, h1 => ⟨h.1, PEd.snoc h.2 h1⟩
theorem PEd.get {L : List Ent} : ∀ {es : List Edt} {ps : List EP}, PEd L es ps → ∀ (i : Nat) (h1 : i < es.length) (h2 : i < ps.length), es[i].kind = ps[i].kind ∧ es[i].at_ = ps[i].at_ ∧ es[i].n = ps[i].n ∧ es[i].to_ = ps[i].to_ ∧ ∃ d, BalZ L es[i].text ps[i].text d
  | _ :: es, _ :: ps, h, 0, _, _ => h.1
  | _ :: es, _ :: ps, h, i + 1, h1, h2 => by
    have := PEd.get h.2 i (by simpa using h1) (by simpa using h2)
    simpa using this

def Edt.vals (e : Edt) : List Value := [.int .i64 e.kind, .int .i64 e.at_, .int .i64 e.n, .int .i64 e.to_, .int .i64 e.text]

end Go.Proofs.YtclpndigmidjkaaGreat

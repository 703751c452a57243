/- Changes in memory, and the walk of patch.balanced. -/
import Derived.Test.YtodmpcnpedpheaaGreatDoorRAzr
import Derived.Test.YtodmpcnpedpheaaGreatDoorRMap
set_option linter.unusedSimpArgs false
set_option linter.unusedVariables false
namespace Go.Proofs.YtodmpcnpedpheaaGreatDoor
open Go.RowKit

structure Chg where
  at_ : Int
  n : Int
  text : Int

/-- The changes lie at an address (if there are any). -/
def ChgsAt (w : World) (a : Option Addr) (cs : List Chg) : Prop :=
  ∀ i (h : i < cs.length), ∃ b off, a = some ⟨b, off, none⟩ ∧ b < w.heap.size ∧ w.cell? ⟨b, off + i * 3, none⟩ = some (.int .i64 cs[i].at_) ∧ w.cell? ⟨b, off + i * 3 + 1, none⟩ = some (.int .i64 cs[i].n) ∧ w.cell? ⟨b, off + i * 3 + 2, none⟩ = some (.int .i64 cs[i].text)

theorem ChgsAt.kept0 {w w' : World} {a : Option Addr} {cs : List Chg} (h : ChgsAt w a cs) (hf : Fr0 w w') : ChgsAt w' a cs := by
  intro i hi
  obtain ⟨b, off, h1, h2, h3, h4, h5⟩ := h i hi
  exact ⟨b, off, h1, by have := hf.size'; omega, (hf.cell b _ h2).trans h3, (hf.cell b _ h2).trans h4, (hf.cell b _ h2).trans h5⟩

end Go.Proofs.YtodmpcnpedpheaaGreatDoor

/- The walk of patch.Length. -/
set_option linter.unusedSimpArgs false
set_option linter.unusedVariables false
namespace Go.Proofs.YtodmpcnpedpheaaGreatDoor
open Go.RowKit

def sumN : List Chg → Int
  | [] => 0
  | c :: r => c.n + sumN r
def sumT (ln : Int → Int) : List Chg → Int
  | [] => 0
  | c :: r => ln c.text + sumT ln r

/-- The length of the text of an ID. -/
def lnL (L : List Ent) (id : Int) : Int := (entAt L id).wt.len

end Go.Proofs.YtodmpcnpedpheaaGreatDoor

/- Plain words: patches of plain texts. No program. -/
set_option linter.unusedSimpArgs false
set_option linter.unusedVariables false
namespace Go.Proofs.YtodmpcnpedpheaaGreatDoor
open Go.RowKit

/-- A change with a plain text. -/
structure PC where
  at_ : Int
  n : Int
  text : List Int

/-- Changes of a store whose texts are those of plain changes. -/
def PChg (L : List Ent) : List Chg → List PC → Prop
  | [], [] => True
  | c :: cs, p :: ps => (c.at_ = p.at_ ∧ c.n = p.n ∧ ∃ d, BalZ L c.text p.text d) ∧ PChg L cs ps
  | _, _ => False

theorem PChg.len {L : List Ent} : ∀ {cs : List Chg} {ps : List PC}, PChg L cs ps → cs.length = ps.length
  | [], [], _ => rfl
  | _ :: cs, _ :: ps, h => by simp [PChg.len h.2]
theorem PChg.more {L L' : List Ent} {n : Nat} (hg : Grows L L' n) (hd : DOk L) : ∀ {cs : List Chg} {ps : List PC}, PChg L cs ps → PChg L' cs ps
  | [], [], _ => trivial
  | _ :: cs, _ :: ps, h => ⟨⟨h.1.1, h.1.2.1, by obtain ⟨d, hb⟩ := h.1.2.2; exact ⟨d, hg.balz hd hb⟩⟩, PChg.more hg hd h.2⟩
theorem PChg.snoc {L : List Ent} : ∀ {cs : List Chg} {ps : List PC}, PChg L cs ps → ∀ {c : Chg} {p : PC} {d : Int}, c.at_ = p.at_ → c.n = p.n → BalZ L c.text p.text d → PChg L (cs ++ [c]) (ps ++ [p])
  | [], [], _, _, _, _, h1, h2, hb => ⟨⟨h1, h2, ⟨_, hb⟩⟩, trivial⟩
  | _ :: cs, _ :: ps, h, _, _, _, h1, h2, hb => ⟨h.1, PChg.snoc h.2 h1 h2 hb⟩
theorem PChg.get {L : List Ent} : ∀ {cs : List Chg} {ps : List PC}, PChg L cs ps → ∀ (i : Nat) (h1 : i < cs.length) (h2 : i < ps.length), cs[i].at_ = ps[i].at_ ∧ cs[i].n = ps[i].n ∧ ∃ d, BalZ L cs[i].text ps[i].text d
  | _ :: cs, _ :: ps, h, 0, _, _ => h.1
  | _ :: cs, _ :: ps, h, i + 1, h1, h2 => by
    have := PChg.get h.2 i (by simpa using h1) (by simpa using h2)
    simpa using this
theorem PChg.all {L : List Ent} : ∀ {cs : List Chg} {ps : List PC}, PChg L cs ps → AllB L (cs.map Chg.text) (ps.map PC.text)
  | [], [], _ => trivial
  | _ :: cs, _ :: ps, h => ⟨h.1.2.2, PChg.all h.2⟩
theorem PChg.known {L : List Ent} : ∀ {cs : List Chg} {ps : List PC}, PChg L cs ps → ∀ c ∈ cs, isKnown L c.text ∧ (entAt L c.text).even = true
  | [], [], _, c, hc => by simp at hc
  | x :: cs, y :: ps, h, c, hc => by
    rcases List.mem_cons.1 hc with rfl | hc
    · obtain ⟨d, hb⟩ := h.1.2.2; exact ⟨hb.known, hb.even⟩
    · exact PChg.known h.2 c hc
/-- The letters that are deleted, and inserted. -/
def delP : List PC → Int
  | [] => 0
  | c :: r => c.n + delP r
def insP : List PC → Nat
  | [] => 0
  | c :: r => c.text.length + insP r

theorem PChg.del {L : List Ent} : ∀ {cs : List Chg} {ps : List PC}, PChg L cs ps → sumN cs = delP ps
  | [], [], _ => rfl
  | c :: cs, p :: ps, h => by simp only [sumN, delP, PChg.del h.2, h.1.2.1]
theorem PChg.ins {L : List Ent} (hd : DOk L) (hs : SOk L) : ∀ {cs : List Chg} {ps : List PC}, PChg L cs ps → sumT (lnL L) cs = insP ps
  | [], [], _ => rfl
  | c :: cs, p :: ps, h => by
    obtain ⟨d, hb⟩ := h.1.2.2
    have := hb.len hd hs
    simp only [sumT, insP, PChg.ins hd hs h.2, lnL, ← this]
    omega

end Go.Proofs.YtodmpcnpedpheaaGreatDoor

/- Changes with strings in memory, and the walk of evergreenlaw37.To. -/
set_option linter.unusedSimpArgs false
set_option linter.unusedVariables false
namespace Go.Proofs.YtodmpcnpedpheaaGreatDoor
open Go.RowKit

/-- A change with a string. -/
structure PS where
  at_ : Int
  n : Int
  s : ByteArray

def PS.vals (c : PS) : List Value := [.int .i64 c.at_, .int .i64 c.n, .string c.s]
def PS.pc (c : PS) : PC := ⟨c.at_, c.n, sbs c.s⟩
def Chg.vals (c : Chg) : List Value := [.int .i64 c.at_, .int .i64 c.n, .int .i64 c.text]

end Go.Proofs.YtodmpcnpedpheaaGreatDoor

/- The walks of patch.applied and patch.Apply. -/
set_option linter.unusedSimpArgs false
set_option linter.unusedVariables false
namespace Go.Proofs.YtodmpcnpedpheaaGreatDoor
open Go.RowKit

theorem owns_low {w : World} {base base' : Nat} {e : TypeId} {size n : Nat} {v : Value} {xs : List Value} (h : w.ownsRow base e size v n xs) (hb : base' ≤ base) : w.ownsRow base' e size v n xs := by
  refine ⟨h.1, ?_⟩
  rcases h.2 with h1 | ⟨g, cap, cur, h1, h2, r⟩
  · exact .inl h1
  · exact .inr ⟨g, cap, cur, h1, by omega, r⟩

theorem Sto.set {B : Nat} {w : World} {p mb : Nat} {most : Int} {L : List Ent} (hS : Sto B w p mb most L) {base : Nat} {T : TypeId} {size n g cap : Nat} {xs : List Value} (ho : w.ownsRow base T size (.slice (some ⟨g, 0, none⟩) n cap) n xs) (h1 : T ≠ 77) (h2 : T ≠ 129) (k : Nat) (u : Value) :
    Sto B (w.setCell ⟨g, k, none⟩ u) p mb most L := by
  obtain ⟨sv, hS, q⟩ := hS
  obtain ⟨cur, hc⟩ := owns_block ho (k := g) rfl
  refine ⟨sv, hS.kept (S := fun j => j = g) ((Fr.refl _ w).setCell _ _ (fun _ => rfl)) ?_ ?_ ?_, q⟩
  · exact ne_of_types hS.ptr hc (fun e => h1 e.symm)
  · exact ne_of_map hS.mp hc
  · intro j hj
    obtain ⟨cur2, hc2⟩ := owns_block hS.own hj
    exact ne_of_types hc2 hc (fun e => h2 e.symm)

theorem Kp.setCell {B mb : Nat} {w0 w : World} (h : Kp B mb w0 w) (a : Addr) (u : Value) (ha : w0.heap.size ≤ a.block) : Kp B mb w0 (w.setCell a u) := by
  have key : ∀ k, k < w0.heap.size → (w.setCell a u).heap[k]? = w.heap[k]? := fun k hk => setCell_other a u (by omega)
  refine ⟨h.os, h.tape, h.output, by simpa [World.setCell] using h.size, fun k h1 h2 => (key k h2).trans (h.low k h1 h2), fun k cs t f e n1 n2 => ?_, fun k es n e ne => ?_⟩
  · rw [key k (lt_of_block e)]; exact h.cells k cs t f e n1 n2
  · rw [key k (lt_of_block e)]; exact h.maps k es n e ne

end Go.Proofs.YtodmpcnpedpheaaGreatDoor

/- A map from IDs to IDs, held exactly. -/
set_option linter.unusedSimpArgs false
set_option linter.unusedVariables false
namespace Go.Proofs.YtodmpcnpedpheaaGreatDoor
open Go.RowKit

def ppEntries : Nat → List (Int × Int) → List MapEntry
  | _, [] => []
  | i, x :: r => { key := .int .i64 x.1, val := .int .i64 x.2, born := i } :: ppEntries (i + 1) r

def valIn : List (Int × Int) → Int → Int
  | [], _ => 0
  | k :: r, x => if x = k.1 then k.2 else valIn r x

theorem ppEntries_push (x : Int × Int) : ∀ (xs : List (Int × Int)) (i : Nat), ppEntries i (xs ++ [x]) = ppEntries i xs ++ [{ key := .int .i64 x.1, val := .int .i64 x.2, born := i + xs.length }] := by
  intro xs
  induction xs with
  | nil => intro i; simp [ppEntries]
  | cons y r ih =>
    intro i
    simp only [List.cons_append, ppEntries, ih (i + 1), List.length_cons]
    rw [show i + 1 + r.length = i + (r.length + 1) by omega]

theorem findNow_pp_none (x : Int) : ∀ (xs : List (Int × Int)) (i j : Nat), (∀ p ∈ xs, p.1 ≠ x) → Instr.findNow (.int .i64) (.int .i64 x) (ppEntries i xs) j = some none := by
  intro xs
  induction xs with
  | nil => intro i j _; simp [ppEntries, Instr.findNow]
  | cons y r ih =>
    intro i j h
    simp only [ppEntries, Instr.findNow, Instr.sameNow, if_true]
    have h0 := h y (by simp)
    have h1 : (x == y.1) = false := by simpa using Ne.symm h0
    simp only [h1, ih (i + 1) (j + 1) (fun p hp => h p (by simp [hp]))]

theorem findNow_pp_some (x : Int) : ∀ (xs : List (Int × Int)) (i j : Nat), (∃ p ∈ xs, p.1 = x) → ∃ k, Instr.findNow (.int .i64) (.int .i64 x) (ppEntries i xs) j = some (some (k, .int .i64 (valIn xs x))) := by
  intro xs
  induction xs with
  | nil => intro i j h; obtain ⟨p, hp, _⟩ := h; simp at hp
  | cons y r ih =>
    intro i j h
    simp only [ppEntries, Instr.findNow, Instr.sameNow, if_true]
    by_cases e : x = y.1
    · have h1 : (x == y.1) = true := by simpa using e
      exact ⟨j, by simp [h1, valIn, e]⟩
    · have h1 : (x == y.1) = false := by simpa using e
      obtain ⟨p, hp, hx⟩ := h
      have hp' : p ∈ r := by
        rcases List.mem_cons.1 hp with rfl | h2
        · exact absurd hx.symm e
        · exact h2
      obtain ⟨k, hk⟩ := ih (i + 1) (j + 1) ⟨p, hp', hx⟩
      exact ⟨k, by simp only [h1, hk, valIn, if_neg e]⟩

theorem valIn_none {xs : List (Int × Int)} {x : Int} (h : ∀ p ∈ xs, p.1 ≠ x) : valIn xs x = 0 := by
  induction xs with
  | nil => rfl
  | cons y r ih =>
    have h0 := h y (by simp)
    rw [valIn, if_neg (Ne.symm h0)]
    exact ih (fun p hp => h p (by simp [hp]))

theorem run_lookup_pp {mb : Nat} {xs : List (Int × Int)} {c : Nat} (x : Int) (w : World) (hm : w.heap[mb]? = some (.map (ppEntries 0 xs).toArray c)) :
    (Instr.lookup 184 (.map (some mb)) (.int .i64 x) false).run Tryz.prog w = .ok (.int .i64 (valIn xs x)) w := by
  by_cases hx : ∃ p ∈ xs, p.1 = x
  · obtain ⟨k, hk⟩ := findNow_pp_some x xs 0 0 hx
    have h1 : (Instr.findKey 38 (.int .i64 x) (ppEntries 0 xs)).run Tryz.prog w = .ok (some (k, .int .i64 (valIn xs x))) w := by simp [Instr.findKey, go_sem, hk]
    simp [Instr.lookup, go_sem, getObj, Sem.run, hm, id_check, h1]
  · have hx' : ∀ p ∈ xs, p.1 ≠ x := fun p hp e => hx ⟨p, hp, e⟩
    have hk := findNow_pp_none x xs 0 0 hx'
    have h1 : (Instr.findKey 38 (.int .i64 x) (ppEntries 0 xs)).run Tryz.prog w = .ok none w := by simp [Instr.findKey, go_sem, hk]
    rw [valIn_none hx']
    simp [Instr.lookup, go_sem, getObj, Sem.run, hm, id_check, h1]

theorem run_update_pp {mb : Nat} {xs : List (Int × Int)} (x y : Int) (w : World) (hm : w.heap[mb]? = some (.map (ppEntries 0 xs).toArray xs.length)) (hx : ∀ p ∈ xs, p.1 ≠ x) :
    (Instr.mapUpdate 184 (.map (some mb)) (.int .i64 x) (.int .i64 y)).run Tryz.prog w = .ok () (setB w mb (.map (ppEntries 0 (xs ++ [(x, y)])).toArray (xs ++ [(x, y)]).length)) := by
  have hk := findNow_pp_none x xs 0 0 hx
  have h1 : (Instr.findKey 38 (.int .i64 x) (ppEntries 0 xs)).run Tryz.prog w = .ok none w := by simp [Instr.findKey, go_sem, hk]
  rw [ppEntries_push]
  simp [Instr.mapUpdate, go_sem, getObj, setObj, Sem.run, hm, id_check, h1, setB]

/-- The numbers of IDs. -/
def nums : Nat → List Int → List (Int × Int)
  | _, [] => []
  | i, x :: r => (x, (i : Int) + 1) :: nums (i + 1) r

theorem nums_push (x : Int) : ∀ (xs : List Int) (i : Nat), nums i (xs ++ [x]) = nums i xs ++ [(x, ((i + xs.length : Nat) : Int) + 1)] := by
  intro xs
  induction xs with
  | nil => intro i; simp [nums]
  | cons y r ih =>
    intro i
    simp only [List.cons_append, nums, ih (i + 1), List.length_cons]
    rw [show i + 1 + r.length = i + (r.length + 1) by omega]

theorem nums_key {x : Int} : ∀ {l : List Int} {i : Nat}, x ∉ l → ∀ p ∈ nums i l, p.1 ≠ x
  | [], _, _, p, hp => by simp [nums] at hp
  | y :: r, i, h, p, hp => by
    simp only [nums, List.mem_cons] at hp
    simp only [List.mem_cons, not_or] at h
    rcases hp with rfl | hp
    · exact Ne.symm h.1
    · exact nums_key h.2 p hp

theorem valIn_nums (x : Int) : ∀ (l : List Int) (i : Nat), valIn (nums i l) x = if x ∈ l then (i : Int) + numIn l x else 0
  | [], i => by simp [nums, valIn]
  | y :: r, i => by
    simp only [nums, valIn, numIn, List.mem_cons, valIn_nums x r (i + 1)]
    by_cases e : x = y
    · simp [e]
    · by_cases hm : x ∈ r
      · simp [e, hm]; omega
      · simp [e, hm]

theorem valIn_nums0 (x : Int) (l : List Int) : valIn (nums 0 l) x = numIn l x := by
  rw [valIn_nums]
  by_cases h : x ∈ l
  · rw [if_pos h]; simp
  · rw [if_neg h, numIn_none h]

/-- What comes before an ID is among those before it. -/
theorem before_mem {out : List Int} (hs : out.Pairwise (· < ·)) {k : Nat} (hk : k < out.length) {y : Int} (hy : y ∈ out) (hlt : y < out[k]) : y ∈ out.take k := by
  obtain ⟨j, hj, rfl⟩ := List.mem_iff_getElem.1 hy
  have hjk : j < k := by
    rcases Nat.lt_trichotomy j k with h | h | h
    · exact h
    · subst h; omega
    · have := List.pairwise_iff_getElem.1 hs k j hk hj h; omega
  exact List.mem_iff_getElem.2 ⟨j, by rw [List.length_take]; omega, List.getElem_take⟩

theorem Outs.nodup {L : List Ent} {id : Int} {out : List Int} (h : Outs L id out) : out.Nodup := h.sorted.imp (fun h => by omega)

/-- The numbers of a reached rule's references are known by then. -/
theorem Outs.renum {L : List Ent} {id : Int} {out : List Int} (h : Outs L id out) (hd : DOk L) (hk : isKnown L id) {k : Nat} (hlt : k < out.length) (y : Int) (hy : y = (entAt L out[k]).rule.left ∨ y = (entAt L out[k]).rule.right) :
    numIn (out.take (k + 1)) y = numIn out y := by
  have hr := h.rng out[k] (List.getElem_mem hlt)
  have hkn : isKnown L out[k] := ⟨by omega, by have := hk.2; omega⟩
  have key : y = 0 ∨ (y ∈ refsR (entAt L out[k]).rule ∧ y < out[k]) := by
    unfold refsR
    rcases hd.at out[k] hkn (by omega) with ⟨g1, g2⟩ | ⟨g1, g2, g3⟩ | ⟨g1, g2, g3⟩
    · left
      rcases hy with rfl | rfl <;> (rw [g2]; rfl)
    · right
      rw [if_pos g1]
      rcases hy with rfl | rfl
      · exact ⟨by simp, g2.2.1⟩
      · exact ⟨by simp, g2.2.2.2⟩
    · rw [if_neg (by omega), if_pos g1]
      rcases hy with rfl | rfl
      · right; exact ⟨by simp, g2.2⟩
      · left; rw [g3]; rfl
  rcases key with rfl | ⟨h1, h2⟩
  · have n0 : (0 : Int) ∉ out := fun hm => by have := h.rng 0 hm; omega
    rw [numIn_none n0, numIn_none (fun hm => n0 (List.mem_of_mem_take hm))]
  · have hm := before_mem h.sorted hlt (h.closed _ (List.getElem_mem hlt) y h1) h2
    refine numIn_take h.nodup ?_
    rw [List.take_succ_eq_append_getElem hlt]
    exact List.mem_append_left _ hm

end Go.Proofs.YtodmpcnpedpheaaGreatDoor

/- Letters that remember where they were, in memory; the walks of evergreenref37's Cells and Text. -/
set_option linter.unusedSimpArgs false
set_option linter.unusedVariables false
namespace Go.Proofs.YtodmpcnpedpheaaGreatDoor
open Go.RowKit

/-- A slice of structs that the call made. -/
structure OwnG {α : Type} (vals : α → List Value) (T : TypeId) (size : Nat) (w0 w : World) (v : Value) (xs : List α) : Prop where
  row : w.ownsRow w0.heap.size T size v xs.length (xs.flatMap vals)
  fr : Fr0 w0 w

theorem OwnG.nil {α : Type} (vals : α → List Value) (T : TypeId) (size : Nat) {w0 w : World} (h : Fr0 w0 w) : OwnG vals T size w0 w (.slice none 0 0) [] := ⟨World.ownsRow_nil _ _ _ _, h⟩
theorem OwnG.kept0 {α : Type} {vals : α → List Value} {T : TypeId} {size : Nat} {w0 w w' : World} {v : Value} {xs : List α} (h : OwnG vals T size w0 w v xs) (hf : Fr0 w w') : OwnG vals T size w0 w' v xs := ⟨hf.owns h.row, h.fr.trans hf⟩
theorem OwnG.form {α : Type} {vals : α → List Value} {T : TypeId} {size : Nat} {w0 w : World} {v : Value} {xs : List α} (h : OwnG vals T size w0 w v xs) : ∃ a cap, v = .slice a xs.length cap := owns_form h.row
theorem OwnG.grown {α : Type} {vals : α → List Value} {T : TypeId} {size : Nat} {w0 w wx w' : World} {v v' : Value} {xs ys : List α} (h : OwnG vals T size w0 w v xs) (hx : Fr0 w wx) (h1 : w'.ownsRow w0.heap.size T size v' ys.length (ys.flatMap vals)) (hg : wx.grownBy w' v.ownBlock) : OwnG vals T size w0 w' v' ys :=
  ⟨h1, Fr.grown (h.fr.trans hx) hg (fun j hj hlt => by have := (h.row.lt j hj).1; omega)⟩
theorem OwnG.base {α : Type} {vals : α → List Value} {T : TypeId} {size : Nat} {w0 w1 w : World} {v : Value} {xs : List α} (h : OwnG vals T size w1 w v xs) (hf : Fr0 w0 w1) : OwnG vals T size w0 w v xs := ⟨owns_low h.row hf.size', hf.trans h.fr⟩

/-- A letter and where it was. -/
def clv (c : Int × Int) : List Value := [.int .u8 c.1, .int .i64 c.2]

theorem info_cell : (Tryz.prog.info? 109).map (fun i => (i.zero, i.size, i.bytes)) = some (some (.agg #[.int .u8 0, .int .i64 0]), 2, 16) := by kernel_rfl
theorem rt_cell : RT 107 109 2 16 := by
  obtain ⟨i, h1, h2, h3, h4⟩ := info_parts info_cell
  exact ⟨by omega, i, _, Tryz.underlying107, h1, h2, h3, h4, rfl⟩
/-- The letters of a text, where they are. -/
def cellsK (t : List Int) (k : Nat) : List (Int × Int) := (List.range k).map fun i => (t.getD i 0, (i : Int))
def cellsOf (t : List Int) : List (Int × Int) := cellsK t t.length

end Go.Proofs.YtodmpcnpedpheaaGreatDoor

/- The walk of evergreenref37.Valid. -/
set_option linter.unusedSimpArgs false
set_option linter.unusedVariables false
namespace Go.Proofs.YtodmpcnpedpheaaGreatDoor
open Go.RowKit

theorem tl_some {s : ByteArray} (h : ¬ s.toList = []) : s.toList.isEmpty = false := by
  cases h' : s.toList with
  | nil => exact absurd h' h
  | cons a l => rfl

end Go.Proofs.YtodmpcnpedpheaaGreatDoor

/- Plain words: patches of plain texts. No program. -/
import Derived.Test.YtodmpcnpedpheaaGreatDoorQSpl1
import Derived.Laws.BytesArg
import Derived.Laws.IdiomStrings
import Derived.Test.YtodmpcnpedpheaaGreatDoorQMap
import Derived.Deep.LoopGhost
import Derived.Deep.DeepCutAuto
set_option linter.unusedSimpArgs false
set_option linter.unusedVariables false
namespace Go.Proofs.YtodmpcnpedpheaaGreatDoor
open Go.RowKit

/-- A change with a plain text. -/
structure PC where
  at_ : Int
  n : Int
  text : List Int

/-- Changes of a store whose texts are those of plain changes. -/
def PChg (L : List Ent) : List Chg → List PC → Prop
  | [], [] => True
  | c :: cs, p :: ps => (c.at_ = p.at_ ∧ c.n = p.n ∧ ∃ d, BalZ L c.text p.text d) ∧ PChg L cs ps
  | _, _ => False

theorem PChg.len {L : List Ent} : ∀ {cs : List Chg} {ps : List PC}, PChg L cs ps → cs.length = ps.length
  | [], [], _ => rfl
  | _ :: cs, _ :: ps, h => by simp [PChg.len h.2]
theorem PChg.more {L L' : List Ent} {n : Nat} (hg : Grows L L' n) (hd : DOk L) : ∀ {cs : List Chg} {ps : List PC}, PChg L cs ps → PChg L' cs ps
  | [], [], _ => trivial
  | _ :: cs, _ :: ps, h => ⟨⟨h.1.1, h.1.2.1, by obtain ⟨d, hb⟩ := h.1.2.2; exact ⟨d, hg.balz hd hb⟩⟩, PChg.more hg hd h.2⟩
theorem PChg.snoc {L : List Ent} : ∀ {cs : List Chg} {ps : List PC}, PChg L cs ps → ∀ {c : Chg} {p : PC} {d : Int}, c.at_ = p.at_ → c.n = p.n → BalZ L c.text p.text d → PChg L (cs ++ [c]) (ps ++ [p])
  | [], [], _, _, _, _, h1, h2, hb => ⟨⟨h1, h2, ⟨_, hb⟩⟩, trivial⟩
  | _ :: cs, _ :: ps, h, _, _, _, h1, h2, hb => ⟨h.1, PChg.snoc h.2 h1 h2 hb⟩
theorem PChg.all {L : List Ent} : ∀ {cs : List Chg} {ps : List PC}, PChg L cs ps → AllB L (cs.map Chg.text) (ps.map PC.text)
  | [], [], _ => trivial
  | _ :: cs, _ :: ps, h => ⟨h.1.2.2, PChg.all h.2⟩
theorem PChg.known {L : List Ent} : ∀ {cs : List Chg} {ps : List PC}, PChg L cs ps → ∀ c ∈ cs, isKnown L c.text ∧ (entAt L c.text).even = true
  | [], [], _, c, hc => by simp at hc
  | x :: cs, y :: ps, h, c, hc => by
    rcases List.mem_cons.1 hc with rfl | hc
    · obtain ⟨d, hb⟩ := h.1.2.2; exact ⟨hb.known, hb.even⟩
    · exact PChg.known h.2 c hc
/-- The letters that are deleted, and inserted. -/
def delP : List PC → Int
  | [] => 0
  | c :: r => c.n + delP r
def insP : List PC → Nat
  | [] => 0
  | c :: r => c.text.length + insP r

theorem PChg.del {L : List Ent} : ∀ {cs : List Chg} {ps : List PC}, PChg L cs ps → sumN cs = delP ps
  | [], [], _ => rfl
  | c :: cs, p :: ps, h => by simp only [sumN, delP, PChg.del h.2, h.1.2.1]
theorem PChg.ins {L : List Ent} (hd : DOk L) (hs : SOk L) : ∀ {cs : List Chg} {ps : List PC}, PChg L cs ps → sumT (lnL L) cs = insP ps
  | [], [], _ => rfl
  | c :: cs, p :: ps, h => by
    obtain ⟨d, hb⟩ := h.1.2.2
    have := hb.len hd hs
    simp only [sumT, insP, PChg.ins hd hs h.2, lnL, ← this]
    omega

end Go.Proofs.YtodmpcnpedpheaaGreatDoor

/- Strings as letters; balance.Text over a store with room. -/
set_option linter.unusedSimpArgs false
set_option linter.unusedVariables false
namespace Go.Proofs.YtodmpcnpedpheaaGreatDoor
open Go.RowKit

/-- The letters of a string. -/
def sbs (s : ByteArray) : List Int := s.data.toList.map fun b => (b.toNat : Int)

/-- The text of a text by halves. -/
theorem textR_txt : ∀ (f : Nat) (L : List Ent) (bs : List Int), SOk L → DOk L → 1 ≤ bs.length → bs.length ≤ f → bs.length ≤ 65536 → (∀ x ∈ bs, 0 ≤ x ∧ x < 256) → txt (textR f L bs).1 (textR f L bs).2 = bs := by
  intro f
  induction f with
  | zero => intro L bs _ _ h1 h2; omega
  | succ f ih =>
    intro L bs hs hd h1 h2 h3 hr
    have hok := textR_ok (f + 1) L bs hs hd h1 h2 h3 hr
    revert hok
    unfold textR
    by_cases h : bs.length = 1
    · rw [if_pos h]
      obtain ⟨b, rfl⟩ : ∃ b, bs = [b] := List.length_eq_one_iff.1 h
      intro hok
      have e := ent_letter hd b
      have k := txt_letter hok.known hok.ne (by show (entAt (addL L (letterEnt b)) (addI L (letterEnt b))).rule.kind = 1; rw [e]; rfl)
      refine k.trans ?_
      show [(entAt (addL L (letterEnt b)) (addI L (letterEnt b))).rule.letter] = _
      rw [e]; rfl
    · rw [if_neg h]
      intro hok
      have ra : ∀ x ∈ bs.take (bs.length / 2), 0 ≤ x ∧ x < 256 := fun x hx => hr x (List.mem_of_mem_take hx)
      have rb : ∀ x ∈ bs.drop (bs.length / 2), 0 ≤ x ∧ x < 256 := fun x hx => hr x (List.mem_of_mem_drop hx)
      have ta := textR_ok f L (bs.take (bs.length / 2)) hs hd (by simp; omega) (by simp; omega) (by simp; omega) ra
      have tb := textR_ok f (textR f L (bs.take (bs.length / 2))).1 (bs.drop (bs.length / 2)) ta.sok ta.dok (by simp; omega) (by simp; omega) (by simp; omega) rb
      have ia := ih L (bs.take (bs.length / 2)) hs hd (by simp; omega) (by simp; omega) (by simp; omega) ra
      have ib := ih (textR f L (bs.take (bs.length / 2))).1 (bs.drop (bs.length / 2)) ta.sok ta.dok (by simp; omega) (by simp; omega) (by simp; omega) rb
      generalize textR f L (bs.take (bs.length / 2)) = XA at *
      generalize textR f XA.1 (bs.drop (bs.length / 2)) = XB at *
      obtain ⟨A, a⟩ := XA
      obtain ⟨C, c⟩ := XB
      dsimp only at *
      have e := ent_pair tb.dok a c
      obtain ⟨M, hM⟩ := tb.ext
      obtain ⟨N, hN⟩ := addL_ext C (pairEnt C a c)
      have ka : isKnown C a := by rw [hM]; exact isKnown_append M ta.known
      have k := txt_pair hok.dok hok.known hok.ne (by show (entAt (addL C (pairEnt C a c)) (addI C (pairEnt C a c))).rule.kind = 2; rw [e]; rfl)
      refine k.trans ?_
      show txt (addL C (pairEnt C a c)) (entAt (addL C (pairEnt C a c)) (addI C (pairEnt C a c))).rule.left ++ txt (addL C (pairEnt C a c)) (entAt (addL C (pairEnt C a c)) (addI C (pairEnt C a c))).rule.right = _
      rw [e]
      show txt (addL C (pairEnt C a c)) a ++ txt (addL C (pairEnt C a c)) c = _
      rw [hN, txt_append tb.dok N ka, txt_append tb.dok N tb.known]
      have ea : txt C a = txt A a := by rw [hM]; exact txt_append ta.dok M ta.known
      rw [ea, ia, ib, List.take_append_drop]

theorem textR_bal {f : Nat} {L : List Ent} {bs : List Int} (hs : SOk L) (hd : DOk L) (h1 : 1 ≤ bs.length) (h2 : bs.length ≤ f) (h3 : bs.length ≤ 65536) (hr : ∀ x ∈ bs, 0 ≤ x ∧ x < 256) :
    Bal (textR f L bs).1 (textR f L bs).2 bs (clog bs.length) ∧ Grows L (textR f L bs).1 (2 * bs.length) := by
  have h := textR_ok f L bs hs hd h1 h2 h3 hr
  exact ⟨⟨h.known, h.ne, textR_txt f L bs hs hd h1 h2 h3 hr, h.even, h.depth⟩, ⟨h.ext, by have := h.len; omega, h.sok, h.dok⟩⟩

end Go.Proofs.YtodmpcnpedpheaaGreatDoor

/- Changes with strings in memory, and the walk of evergreenlaw37.To. -/
set_option linter.unusedSimpArgs false
set_option linter.unusedVariables false
namespace Go.Proofs.YtodmpcnpedpheaaGreatDoor
open Go.RowKit

/-- A change with a string. -/
structure PS where
  at_ : Int
  n : Int
  s : ByteArray

def PS.vals (c : PS) : List Value := [.int .i64 c.at_, .int .i64 c.n, .string c.s]
def PS.pc (c : PS) : PC := ⟨c.at_, c.n, sbs c.s⟩
def Chg.vals (c : Chg) : List Value := [.int .i64 c.at_, .int .i64 c.n, .int .i64 c.text]

end Go.Proofs.YtodmpcnpedpheaaGreatDoor

/- The walks of patch.applied and patch.Apply. -/
set_option linter.unusedSimpArgs false
set_option linter.unusedVariables false
namespace Go.Proofs.YtodmpcnpedpheaaGreatDoor
open Go.RowKit

theorem owns_low {w : World} {base base' : Nat} {e : TypeId} {size n : Nat} {v : Value} {xs : List Value} (h : w.ownsRow base e size v n xs) (hb : base' ≤ base) : w.ownsRow base' e size v n xs := by
  refine ⟨h.1, ?_⟩
  rcases h.2 with h1 | ⟨g, cap, cur, h1, h2, r⟩
  · exact .inl h1
  · exact .inr ⟨g, cap, cur, h1, by omega, r⟩

theorem Sto.set {B : Nat} {w : World} {p mb : Nat} {most : Int} {L : List Ent} (hS : Sto B w p mb most L) {base : Nat} {T : TypeId} {size n g cap : Nat} {xs : List Value} (ho : w.ownsRow base T size (.slice (some ⟨g, 0, none⟩) n cap) n xs) (h1 : T ≠ 77) (h2 : T ≠ 129) (k : Nat) (u : Value) :
    Sto B (w.setCell ⟨g, k, none⟩ u) p mb most L := by
  obtain ⟨sv, hS, q⟩ := hS
  obtain ⟨cur, hc⟩ := owns_block ho (k := g) rfl
  refine ⟨sv, hS.kept (S := fun j => j = g) ((Fr.refl _ w).setCell _ _ (fun _ => rfl)) ?_ ?_ ?_, q⟩
  · exact ne_of_types hS.ptr hc (fun e => h1 e.symm)
  · exact ne_of_map hS.mp hc
  · intro j hj
    obtain ⟨cur2, hc2⟩ := owns_block hS.own hj
    exact ne_of_types hc2 hc (fun e => h2 e.symm)

theorem Kp.setCell {B mb : Nat} {w0 w : World} (h : Kp B mb w0 w) (a : Addr) (u : Value) (ha : w0.heap.size ≤ a.block) : Kp B mb w0 (w.setCell a u) := by
  have key : ∀ k, k < w0.heap.size → (w.setCell a u).heap[k]? = w.heap[k]? := fun k hk => setCell_other a u (by omega)
  refine ⟨h.os, h.tape, h.output, by simpa [World.setCell] using h.size, fun k h1 h2 => (key k h2).trans (h.low k h1 h2), fun k cs t f e n1 n2 => ?_, fun k es n e ne => ?_⟩
  · rw [key k (lt_of_block e)]; exact h.cells k cs t f e n1 n2
  · rw [key k (lt_of_block e)]; exact h.maps k es n e ne

end Go.Proofs.YtodmpcnpedpheaaGreatDoor

/- A map from IDs to IDs, held exactly. -/
set_option linter.unusedSimpArgs false
set_option linter.unusedVariables false
namespace Go.Proofs.YtodmpcnpedpheaaGreatDoor
open Go.RowKit

def ppEntries : Nat → List (Int × Int) → List MapEntry
  | _, [] => []
  | i, x :: r => { key := .int .i64 x.1, val := .int .i64 x.2, born := i } :: ppEntries (i + 1) r

/-- The numbers of IDs. -/
def nums : Nat → List Int → List (Int × Int)
  | _, [] => []
  | i, x :: r => (x, (i : Int) + 1) :: nums (i + 1) r

theorem Outs.nodup {L : List Ent} {id : Int} {out : List Int} (h : Outs L id out) : out.Nodup := h.sorted.imp (fun h => by omega)

end Go.Proofs.YtodmpcnpedpheaaGreatDoor

/- Letters that remember where they were, in memory; the walks of evergreenref37's Cells and Text. -/
set_option linter.unusedSimpArgs false
set_option linter.unusedVariables false
namespace Go.Proofs.YtodmpcnpedpheaaGreatDoor
open Go.RowKit

/-- A slice of structs that the call made. -/
structure OwnG {α : Type} (vals : α → List Value) (T : TypeId) (size : Nat) (w0 w : World) (v : Value) (xs : List α) : Prop where
  row : w.ownsRow w0.heap.size T size v xs.length (xs.flatMap vals)
  fr : Fr0 w0 w

theorem OwnG.nil {α : Type} (vals : α → List Value) (T : TypeId) (size : Nat) {w0 w : World} (h : Fr0 w0 w) : OwnG vals T size w0 w (.slice none 0 0) [] := ⟨World.ownsRow_nil _ _ _ _, h⟩
theorem OwnG.kept0 {α : Type} {vals : α → List Value} {T : TypeId} {size : Nat} {w0 w w' : World} {v : Value} {xs : List α} (h : OwnG vals T size w0 w v xs) (hf : Fr0 w w') : OwnG vals T size w0 w' v xs := ⟨hf.owns h.row, h.fr.trans hf⟩
theorem OwnG.form {α : Type} {vals : α → List Value} {T : TypeId} {size : Nat} {w0 w : World} {v : Value} {xs : List α} (h : OwnG vals T size w0 w v xs) : ∃ a cap, v = .slice a xs.length cap := owns_form h.row
theorem OwnG.grown {α : Type} {vals : α → List Value} {T : TypeId} {size : Nat} {w0 w wx w' : World} {v v' : Value} {xs ys : List α} (h : OwnG vals T size w0 w v xs) (hx : Fr0 w wx) (h1 : w'.ownsRow w0.heap.size T size v' ys.length (ys.flatMap vals)) (hg : wx.grownBy w' v.ownBlock) : OwnG vals T size w0 w' v' ys :=
  ⟨h1, Fr.grown (h.fr.trans hx) hg (fun j hj hlt => by have := (h.row.lt j hj).1; omega)⟩
theorem OwnG.base {α : Type} {vals : α → List Value} {T : TypeId} {size : Nat} {w0 w1 w : World} {v : Value} {xs : List α} (h : OwnG vals T size w1 w v xs) (hf : Fr0 w0 w1) : OwnG vals T size w0 w v xs := ⟨owns_low h.row hf.size', hf.trans h.fr⟩

/-- The letters of a text, where they are. -/
def cellsK (t : List Int) (k : Nat) : List (Int × Int) := (List.range k).map fun i => (t.getD i 0, (i : Int))
def cellsOf (t : List Int) : List (Int × Int) := cellsK t t.length

end Go.Proofs.YtodmpcnpedpheaaGreatDoor

/- The walk of evergreenref37.Apply. -/
set_option linter.unusedSimpArgs false
set_option linter.unusedVariables false
namespace Go.Proofs.YtodmpcnpedpheaaGreatDoor
open Go.RowKit

theorem add_offG (b o j : Nat) : (⟨b, o, none⟩ : Addr).add j = ⟨b, o + j, none⟩ := by
  unfold Addr.add
  split
  · next e => rw [e, Nat.add_zero]
  · rfl

end Go.Proofs.YtodmpcnpedpheaaGreatDoor

/- The walk of evergreenlaw37.small. -/
set_option linter.unusedSimpArgs false
set_option linter.unusedVariables false
namespace Go.Proofs.YtodmpcnpedpheaaGreatDoor
open Go.RowKit

/-- Lists of changes at an address. -/
def PssAt (B : Nat) (w : World) (a : Option Addr) (pss : List (List PS)) : Prop :=
  ∀ i (h : i < pss.length), ∃ b off ia ic, a = some ⟨b, off, none⟩ ∧ b < w.heap.size ∧ w.cell? ⟨b, off + i, none⟩ = some (.slice ia pss[i].length ic) ∧ RG PS.vals 3 B w ia pss[i]

theorem PssAt.kept0 {B : Nat} {w w' : World} {a : Option Addr} {pss : List (List PS)} (h : PssAt B w a pss) (hf : Fr0 w w') : PssAt B w' a pss := by
  intro i hi
  obtain ⟨b, off, ia, ic, h1, h2, h3, h4⟩ := h i hi
  exact ⟨b, off, ia, ic, h1, by have := Fr.size hf; omega, (hf.cell b _ h2).trans h3, h4.kept0 hf⟩

end Go.Proofs.YtodmpcnpedpheaaGreatDoor

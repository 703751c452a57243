/- Laws of the statements about patches: one list of changes as an argument; lengths of patched texts. -/
import Derived.Test.YtclpndigmidjkaaGreatQL37b
import Derived.Test.YtclpndigmidjkaaGreatQR37c
import Derived.Test.YtclpndigmidjkaaGreatQSml
import Derived.Test.YtclpndigmidjkaaGreatQErr
set_option linter.unusedSimpArgs false
set_option linter.unusedVariables false
namespace Go.Proofs.YtclpndigmidjkaaGreat
open Go.RowKit

theorem patG_map {α β : Type} (g : α → β) (emb : Int → α) (emb' : Int → β) (he : ∀ x, g (emb x) = emb' x) (T : List α) : ∀ (ps : List PC) (f : Int), (patG emb T f ps).map g = patG emb' (T.map g) f ps
  | [], f => by simp [patG, List.map_drop]
  | c :: r, f => by
    have e : g ∘ emb = emb' := funext he
    simp only [patG, List.map_append, List.map_take, List.map_drop, List.map_map, patG_map g emb emb' he T r, e]

/-- The letters of what the reference's Apply makes. -/
theorem patC_fst (t : List Int) (ps : List PC) : (patG embC (cellsOf t) 0 ps).map Prod.fst = patR t ps := by
  unfold patR
  rw [patG_map Prod.fst embC id (fun _ => rfl), cellsOf_fst]

theorem lst14 : lst 14 = 987 := rfl

theorem pss_one {B : Nat} {w : World} {a : Option Addr} {cap : Nat} {ps : List PS} (T : TypeId) (hA : RG PS.vals 3 B w a ps) : PssAt B (w.alloc (.cells #[.slice a ps.length cap] T (0, 0))) (some ⟨w.heap.size, 0, none⟩) [ps] := by
  intro i hi
  have hb := alloc_at w (.cells #[.slice a ps.length cap] T (0, 0)) _ rfl
  match i, hi with
  | 0, _ => exact ⟨_, 0, a, cap, rfl, lt_of_block hb, by rw [cell_of_block hb]; rfl, hA.kept0 ((Fr0.refl w).alloc _)⟩

theorem pss_two {B : Nat} {w : World} {a a' : Option Addr} {cap cap' : Nat} {ps qs : List PS} (T : TypeId) (hA : RG PS.vals 3 B w a ps) (hA' : RG PS.vals 3 B w a' qs) : PssAt B (w.alloc (.cells #[.slice a ps.length cap, .slice a' qs.length cap'] T (0, 0))) (some ⟨w.heap.size, 0, none⟩) [ps, qs] := by
  intro i hi
  have hb := alloc_at w (.cells #[.slice a ps.length cap, .slice a' qs.length cap'] T (0, 0)) _ rfl
  match i, hi with
  | 0, _ => exact ⟨_, 0, a, cap, rfl, lt_of_block hb, by rw [cell_of_block hb]; rfl, hA.kept0 ((Fr0.refl w).alloc _)⟩
  | 1, _ => exact ⟨_, 0, a', cap', rfl, lt_of_block hb, by rw [cell_of_block hb]; rfl, hA'.kept0 ((Fr0.refl w).alloc _)⟩

theorem RG.fr0 {α : Type} {vals : α → List Value} {size B : Nat} {w w' : World} {a : Option Addr} {xs : List α} (h : RG vals size B w a xs) (hf : Fr0 w w') : RG vals size B w' a xs := h.kept0 hf

/-- How long a patched text can be. -/
theorem patR_le {t : List Int} {ps : List PC} (h : validP t.length (-1) ps = true) : (patR t ps).length ≤ t.length + insP ps := by
  have := patR_len h
  have := delP_nn h
  omega

theorem mul_room {a b c d : Nat} (h1 : a ≤ c) (h2 : b ≤ d) : a * b ≤ c * d := Nat.mul_le_mul h1 h2

end Go.Proofs.YtclpndigmidjkaaGreat

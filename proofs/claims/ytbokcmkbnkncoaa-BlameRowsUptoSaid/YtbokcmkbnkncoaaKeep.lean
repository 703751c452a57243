/- The walks of builder.add and builder.keep over letters. -/
import Derived.Test.YtbokcmkbnkncoaaLet
set_option linter.unusedSimpArgs false
set_option linter.unusedVariables false
namespace Go.Proofs.Ytbokcmkbnkncoaa
open Go.RowKit

/-- Block q is a builder of the letters Y, made after w0. -/
structure Nb (w0 w : World) (q : Nat) (Y : List Lt) : Prop where
  frame : Fr0 w0 w
  new : w0.heap.size ≤ q
  bd : ∃ rv, Bd w q rv (rowsOf Y) Y.length ∧ ∀ k, rv.ownBlock = some k → w0.heap.size ≤ k

theorem Nb.kept0 {w0 w w' : World} {q : Nat} {Y : List Lt} (h : Nb w0 w q Y) (hf : Fr0 w w') : Nb w0 w' q Y := by
  obtain ⟨rv, h1, h2⟩ := h.bd
  exact ⟨h.frame.trans hf, h.new, rv, h1.kept0 hf, h2⟩

theorem Nb.step {w0 w w' : World} {q : Nat} {Y Z : List Lt} {rv : Value} {rs : List Rw} {len : Int} (h : Nb w0 w q Y) (hv : ∀ k, rv.ownBlock = some k → w0.heap.size ≤ k) (hs : BStep w w' q rv rs len) (h1 : rs = rowsOf Z) (h2 : len = Z.length) : Nb w0 w' q Z := by
  obtain ⟨rv', k1, k2, k3⟩ := hs
  subst h1 h2
  refine ⟨Fr.trans h.frame k2 ?_, h.new, rv', k1, ?_⟩
  · rintro i (hi | hi) hlt
    · have := h.new; omega
    · have := hv i hi; omega
  · intro k hk
    rcases k3 k hk with g | g
    · exact hv k g
    · have := h.frame.size'; omega

/-- Blocks of other types than a builder's and its rows' are as they were. -/
def Ty (w w' : World) : Prop := ∀ (k : Nat) (cs : Array Value) (t : TypeId) (f : Nat × Nat), w.heap[k]? = some (.cells cs t f) → t ≠ 51 → t ≠ 96 → w'.heap[k]? = some (.cells cs t f)

theorem Ty.refl (w : World) : Ty w w := fun _ _ _ _ h _ _ => h
theorem Ty.trans {a b c : World} (h : Ty a b) (k : Ty b c) : Ty a c := fun i cs t f h1 h2 h3 => k i cs t f (h i cs t f h1 h2 h3) h2 h3
theorem Ty.of0 {a b : World} (h : Fr0 a b) : Ty a b := fun i cs t f h1 _ _ => h.kept h1

theorem Ty.step {w w' : World} {q : Nat} {rv : Value} {rs rs' : List Rw} {len len' : Int} (hB : Bd w q rv rs len) (hs : BStep w w' q rv rs' len') : Ty w w' := by
  obtain ⟨rv', k1, k2, k3⟩ := hs
  intro k cs t f h1 h2 h3
  refine k2.kept h1 ?_
  rintro (rfl | h)
  · rw [hB.ptr] at h1; simp at h1; exact h3 h1.2.1.symm
  · obtain ⟨cur, hg⟩ := owns_block hB.own h
    rw [hg] at h1; simp at h1; exact h2 h1.2.1.symm

theorem bl_addL {w0 w : World} {q : Nat} {Y : List Lt} (hN : Nb w0 w q Y) (hY : LOk Y) (m : Nat) (n ver org : Int) (hm : n = m) (hs : (Y.length : Int) + n ≤ 4611686018427387904) (hn : n ≤ 1152921504606846976) (hr : (rowsOf Y).length ≤ 1000000) :
    Calls Try.prog 29 #[.pointer (some ⟨q, 0, none⟩), .int .i64 n, .int .i64 ver, .int .i64 org] w fun e w' => e = .returned (.tuple #[]) ∧ Nb w0 w' q (Y ++ run m ver org) ∧ Ty w w' := by
  subst hm
  obtain ⟨rv, h1, h2⟩ := hN.bd
  refine (bl_add h1 m ver org (by omega) (by omega) (by omega) hr (hY.rows.last _ (by omega))).mono ?_
  rintro e w' ⟨rfl, hst⟩
  exact ⟨rfl, hN.step h2 hst (rowsOf_run Y m ver org).symm (by simp [run_len]), Ty.step h1 hst⟩

theorem RowsAt.tail {w : World} {b off : Nat} {r : Rw} {rs : List Rw} (h : RowsAt w (some ⟨b, off, none⟩) (r :: rs)) : RowsAt w (some ⟨b, off + 4, none⟩) rs := by
  intro i hi
  obtain ⟨b', off', h1, h2, h3, h4, h5, h6⟩ := h (i + 1) (by simp; omega)
  simp only [Option.some.injEq, Addr.mk.injEq, and_true] at h1
  obtain ⟨rfl, rfl⟩ := h1
  simp only [List.getElem_cons_succ] at h3 h4 h5 h6
  rw [show off + (i + 1) * 4 = off + 4 + i * 4 by omega] at h3 h4 h5 h6
  exact ⟨b, off + 4, rfl, h2, h3, h4, h5, h6⟩

def lenOf : Value → Nat
  | .slice _ n _ => n
  | _ => 0

theorem Cv.org {T : List Lt} {p : Int} {r : Rw} {rs : List Rw} (hT : LOk T) (h : Cv p (r :: rs) (T.drop p.toNat)) : 0 ≤ r.org ∧ r.org + r.n ≤ 1152921504606846976 := by
  obtain ⟨_, hn, T', hT', _⟩ := h
  have hl : ∀ i : Nat, (i : Int) < r.n → 0 ≤ r.org + (i : Int) ∧ r.org + (i : Int) < BB := by
    intro i hi
    have hm : (⟨r.ver, r.org + (i : Int)⟩ : Lt) ∈ T.drop p.toNat := by
      rw [hT']
      refine List.mem_append_left _ (List.mem_map.2 ⟨i, List.mem_range.2 (by omega), rfl⟩)
    exact hT _ (List.mem_of_mem_drop hm)
  have a := hl 0 (by omega)
  have b := hl (r.n - 1).toNat (by omega)
  unfold BB at *
  omega

theorem RowsAt.nil (w : World) (a : Option Addr) : RowsAt w a [] := fun i h => by simp at h

theorem keep_call {w0 wr : World} {q : Nat} {T Y : List Lt} {r : Rw} {rr : List Rw} {f : Int} {C : Nat} (hC : Cv r.fr (r :: rr) (T.drop r.fr.toNat)) (h0 : 0 ≤ r.fr) (hN : Nb w0 wr q (Y ++ sl T f (max r.fr f))) (hcn : (rowsOf (Y ++ sl T f (max r.fr f))).length + (r :: rr).length ≤ C) (hc : C ≤ 999999)
    (hT : LOk T) (hY : LOk Y) (hTl : (T.length : Int) ≤ 1152921504606846976) (hYl : (Y.length : Int) ≤ 1152921504606846976) (hf : 0 ≤ f) {W : World} (hW : Fr0 wr W) (m n org : Int) (h1 : max r.fr f < m) (h2 : m ≤ r.fr + r.n) (hn : n = m - max r.fr f) (ho : org = r.org + (max r.fr f - r.fr)) :
    Calls Try.prog 29 #[.pointer (some ⟨q, 0, none⟩), .int .i64 n, .int .i64 r.ver, .int .i64 org] W fun e w' => e = .returned (.tuple #[]) ∧ Nb w0 w' q (Y ++ sl T f m) ∧ (rowsOf (Y ++ sl T f m)).length + rr.length ≤ C ∧ Ty wr w' := by
  have hle := hC.le h0
  have e1 : Y ++ sl T f m = (Y ++ sl T f (max r.fr f)) ++ run (m - max r.fr f).toNat r.ver org := by
    rw [ho, ← sl_row h0 hC (a := max r.fr f) (b := m) (by omega) (by omega) h2, List.append_assoc, sl_split T hf (by omega) (by omega)]
  have hlen := sl_len T f (max r.fr f)
  simp only [List.length_cons] at hcn
  refine (bl_addL (hN.kept0 hW) (hY.append (hT.sl _ _)) (m - max r.fr f).toNat n r.ver org (by omega) (by rw [List.length_append]; omega) (by omega) (by omega)).mono ?_
  rintro e w' ⟨rfl, hN2, hty⟩
  rw [← e1] at hN2
  refine ⟨rfl, hN2, ?_, (Ty.of0 hW).trans hty⟩
  rw [e1, rowsOf_run]
  have := addRow_len (rowsOf (Y ++ sl T f (max r.fr f))) (Y ++ sl T f (max r.fr f)).length ((m - max r.fr f).toNat : Nat) r.ver org
  omega

def KeepPost (w w0 : World) (q : Nat) (T Y : List Lt) (f t : Int) (C : Nat) (e : Ending) (w' : World) : Prop :=
  ∃ a cap rr p, e = .returned (.slice a rr.length cap) ∧ rr.length ≤ cap ∧ RowsAt w0 a rr ∧ Cv p rr (T.drop p.toNat) ∧ 0 ≤ p ∧ p ≤ t ∧ Nb w0 w' q (Y ++ sl T f t) ∧ (rowsOf (Y ++ sl T f t)).length + rr.length ≤ C + 1 ∧ Ty w w'

def KeepRel (w w0 : World) (q : Nat) (T Y : List Lt) (f t : Int) (C : Nat) (a : Option Addr) (wr : World) (rr : List Rw) (p : Int) : Prop :=
  RowsAt w0 a rr ∧ Cv p rr (T.drop p.toNat) ∧ 0 ≤ p ∧ p ≤ t ∧ Nb w0 wr q (Y ++ sl T f (max p f)) ∧ (rowsOf (Y ++ sl T f (max p f))).length + rr.length ≤ C ∧ Ty w wr

set_option maxRecDepth 100000 in
set_option maxHeartbeats 2000000 in
theorem bl_keep {w0 w : World} {q : Nat} {T Y : List Lt} (hN : Nb w0 w q Y) (hT : LOk T) (hY : LOk Y) (a : Option Addr) (cap : Nat) (rr : List Rw) (p f t : Int) (hR : RowsAt w0 a rr) (hC : Cv p rr (T.drop p.toNat)) (h0 : 0 ≤ p) (h1 : p ≤ f) (h2 : f ≤ t) (h3 : t ≤ 9223372036854775807) (hf : f ≤ 1152921504606846976)
    (hTl : (T.length : Int) ≤ 1152921504606846976) (hYl : (Y.length : Int) ≤ 1152921504606846976) (hc : (rowsOf Y).length + rr.length ≤ 999999) (hcap : rr.length ≤ cap) :
    Calls Try.prog 43 #[.pointer (some ⟨q, 0, none⟩), .slice a rr.length cap, .int .i64 f, .int .i64 t] w (KeepPost w w0 q T Y f t ((rowsOf Y).length + rr.length)) := by
  have HST := Lib.hid (show KeepRel w w0 q T Y f t ((rowsOf Y).length + rr.length) a w rr p from ⟨hR, hC, h0, by omega, by rw [Int.max_eq_right h1, sl_self, List.append_nil]; exact hN, by rw [Int.max_eq_right h1, sl_self, List.append_nil]; exact Nat.le_refl _, Ty.refl w⟩)
  have hf0 : 0 ≤ f := by omega
  have HT := Lib.hid hT
  have HY := Lib.hid hY
  generalize hCC : (rowsOf Y).length + rr.length = C at *
  clear hCC hN hT hY hR hC h1
  go_enter Try.func43, Try.ntmps43
  go_wp2_with fail
  go_loopw [1] (fun v wr => ∃ (a : Option Addr) (cap : Nat) (rr : List Rw) (p : Int), v = .slice a rr.length cap ∧ rr.length ≤ C ∧ rr.length ≤ cap ∧ KeepRel w w0 q T Y f t C a wr rr p) (fun v _ => lenOf v)
  case atStart => exact ⟨a, cap, rr, p, rfl, Nat.le_trans (Nat.le_add_left _ _) HST.out.2.2.2.2.2.1, hcap, HST.out⟩
  case round =>
    clear HST hcap a cap rr p h0
    obtain ⟨a, cap, rr, p, rfl, hrc, hcap, hK⟩ := hrel
    obtain ⟨hR, hC, h0, h1, hN, hcn, hty⟩ := hK
    have HTY := Lib.hid hty
    clear hty
    cases rr with
    | nil =>
      have hd := hC.done h0
      have he : sl T f (max p f) = sl T f t := by rw [sl_end T (b := max p f) (by omega), sl_end T (b := t) (by omega)]
      rw [he] at hN hcn
      have X : Hid (KeepPost w w0 q T Y f t C (.returned (.slice a ([] : List Rw).length cap)) wr) := ⟨a, cap, [], p, rfl, hcap, hR, hC, h0, h1, hN, by omega, HTY.out⟩
      clear hd he hR hC hN hcn
      go_wp2_with fail
      go_ret
      exact X.out
    | cons r rr =>
      obtain ⟨hpr, hn, hjunk⟩ := id hC
      clear hjunk
      subst hpr
      have hle := hC.le h0
      have ho := hC.org HT.out
      obtain ⟨b, off, hab, lb0, d0, d1, d2, d3⟩ := (hR.kept0 hN.frame) 0 (by simp)
      subst hab
      simp only [Nat.zero_mul, Nat.add_zero, List.getElem_cons_zero] at d0 d1 d2 d3
      by_cases ht : r.fr < t
      · have CA := Lib.hid (fun W (hW : Fr0 wr W) m n org h1 h2 h3 h4 => keep_call hC h0 hN hcn hc HT.out HY.out hTl hYl hf0 hW m n org h1 h2 h3 h4)
        have HR := Lib.hid hR
        have HN := Lib.hid hN
        have HCN := Lib.hid hcn
        have HNX := Lib.hid (hC.next h0)
        have HC := Lib.hid hC
        clear hR hC hN hcn
        by_cases hm : r.fr < f
        · by_cases he : t < r.fr + r.n
          · by_cases hfi : f < t
            · go_wp2_with fail
              refine (CA.out _ ((Fr0.refl wr).alloc _) t _ _ (by omega) (by omega) (by omega) (by omega)).mono ?_
              rintro e w2 ⟨rfl, hN2, hc2, hty2⟩
              go_wp2_with fail
              go_ret
              exact ⟨_, cap, r :: rr, r.fr, rfl, hcap, HR.out, HC.out, h0, h1, hN2, by simp only [List.length_cons]; omega, HTY.out.trans hty2⟩
            · have e1 : max r.fr f = t := by omega
              have XN : Hid (Nb w0 wr q (Y ++ sl T f t)) := by rw [← e1]; exact HN.out
              have XC : Hid ((rowsOf (Y ++ sl T f t)).length + (r :: rr).length ≤ C) := by have := HCN.out; rw [e1] at this; exact this
              clear e1
              go_wp2_with fail
              go_ret
              exact ⟨_, cap, r :: rr, r.fr, rfl, hcap, HR.out, HC.out, h0, h1, XN.out.kept0 ((Fr0.refl wr).alloc _), by have := XC.out; omega, HTY.out.trans (Ty.of0 ((Fr0.refl wr).alloc _))⟩
          · by_cases hfi : f < r.fr + r.n
            · have e1 : Hid (max (r.fr + r.n) f = r.fr + r.n) := by show max (r.fr + r.n) f = r.fr + r.n; omega
              go_wp2_with fail
              refine (CA.out _ ((Fr0.refl wr).alloc _) (r.fr + r.n) _ _ (by omega) (by omega) (by omega) (by omega)).mono ?_
              rintro e w2 ⟨rfl, hN2, hc2, hty2⟩
              by_cases hc1 : cap = 1
              · subst hc1
                obtain rfl : rr = [] := by cases rr; rfl; simp at hcap
                go_wp2_with fail
                go_roundw
                case rel => exact ⟨_, _, [], r.fr + r.n, rfl, Nat.zero_le _, Nat.zero_le _, RowsAt.nil _ _, HNX.out, by omega, by omega, by rw [e1.out]; exact hN2, by rw [e1.out]; exact hc2, HTY.out.trans hty2⟩
                case measure => simp [lenOf]
              · go_wp2_with fail
                go_roundw
                case rel => exact ⟨_, _, rr, r.fr + r.n, rfl, by simp at hrc; omega, by simp at hcap; omega, HR.out.tail, HNX.out, by omega, by omega, by rw [e1.out]; exact hN2, by rw [e1.out]; exact hc2, HTY.out.trans hty2⟩
                case measure => simp [lenOf]
            · have e1 : Hid (max (r.fr + r.n) f = max r.fr f) := by show max (r.fr + r.n) f = max r.fr f; omega
              by_cases hc1 : cap = 1
              · subst hc1
                obtain rfl : rr = [] := by cases rr; rfl; simp at hcap
                go_wp2_with fail
                go_roundw
                case rel => exact ⟨_, _, [], r.fr + r.n, rfl, Nat.zero_le _, Nat.zero_le _, RowsAt.nil _ _, HNX.out, by omega, by omega, by rw [e1.out]; exact HN.out.kept0 ((Fr0.refl wr).alloc _), by rw [e1.out]; have := HCN.out; simp at this ⊢; omega, HTY.out.trans (Ty.of0 ((Fr0.refl wr).alloc _))⟩
                case measure => simp [lenOf]
              · go_wp2_with fail
                go_roundw
                case rel => exact ⟨_, _, rr, r.fr + r.n, rfl, by simp at hrc; omega, by simp at hcap; omega, HR.out.tail, HNX.out, by omega, by omega, by rw [e1.out]; exact HN.out.kept0 ((Fr0.refl wr).alloc _), by rw [e1.out]; have := HCN.out; simp at this ⊢; omega, HTY.out.trans (Ty.of0 ((Fr0.refl wr).alloc _))⟩
                case measure => simp [lenOf]
        · by_cases he : t < r.fr + r.n
          · go_wp2_with fail
            refine (CA.out _ ((Fr0.refl wr).alloc _) t _ _ (by omega) (by omega) (by omega) (by omega)).mono ?_
            rintro e w2 ⟨rfl, hN2, hc2, hty2⟩
            go_wp2_with fail
            go_ret
            exact ⟨_, cap, r :: rr, r.fr, rfl, hcap, HR.out, HC.out, h0, h1, hN2, by simp only [List.length_cons]; omega, HTY.out.trans hty2⟩
          · have e1 : Hid (max (r.fr + r.n) f = r.fr + r.n) := by show max (r.fr + r.n) f = r.fr + r.n; omega
            go_wp2_with fail
            refine (CA.out _ ((Fr0.refl wr).alloc _) (r.fr + r.n) _ _ (by omega) (by omega) (by omega) (by omega)).mono ?_
            rintro e w2 ⟨rfl, hN2, hc2, hty2⟩
            by_cases hc1 : cap = 1
            · subst hc1
              obtain rfl : rr = [] := by cases rr; rfl; simp at hcap
              go_wp2_with fail
              go_roundw
              case rel => exact ⟨_, _, [], r.fr + r.n, rfl, Nat.zero_le _, Nat.zero_le _, RowsAt.nil _ _, HNX.out, by omega, by omega, by rw [e1.out]; exact hN2, by rw [e1.out]; exact hc2, HTY.out.trans hty2⟩
              case measure => simp [lenOf]
            · go_wp2_with fail
              go_roundw
              case rel => exact ⟨_, _, rr, r.fr + r.n, rfl, by simp at hrc; omega, by simp at hcap; omega, HR.out.tail, HNX.out, by omega, by omega, by rw [e1.out]; exact hN2, by rw [e1.out]; exact hc2, HTY.out.trans hty2⟩
              case measure => simp [lenOf]
      · have hte : r.fr = t := by omega
        have he : max r.fr f = t := by omega
        rw [he] at hN hcn
        have X : Hid (KeepPost w w0 q T Y f t C (.returned (.slice (some ⟨b, off, none⟩) (r :: rr).length cap)) wr) := ⟨_, cap, r :: rr, r.fr, rfl, hcap, hR, hC, h0, h1, hN, by omega, HTY.out⟩
        clear hR hC hN hcn he hte
        go_wp2_with fail
        go_ret
        exact X.out

end Go.Proofs.Ytbokcmkbnkncoaa

/- Strings as letters; balance.Text over a store with room. -/
import Derived.Test.YtclpndigmidjkaaGreatQd
import Derived.Laws.BytesArg
import Derived.Laws.IdiomStrings
set_option linter.unusedSimpArgs false
set_option linter.unusedVariables false
namespace Go.Proofs.YtclpndigmidjkaaGreat
open Go.RowKit

/-- The letters of a string. -/
def sbs (s : ByteArray) : List Int := s.data.toList.map fun b => (b.toNat : Int)

theorem sbs_len (s : ByteArray) : (sbs s).length = s.size := by unfold sbs; rw [List.length_map]; rfl
theorem sbs_rng (s : ByteArray) : ∀ x ∈ sbs s, 0 ≤ x ∧ x < 256 := by
  intro x hx
  obtain ⟨b, _, rfl⟩ := List.mem_map.1 hx
  have := b.toNat_lt
  omega
theorem str_sbs (s : ByteArray) : strOfNums (sbs s) = s := by
  obtain ⟨d⟩ := s
  unfold strOfNums sbs
  congr 1
  rw [List.map_map]
  have : (fun n : Int => UInt8.ofNat n.toNat) ∘ (fun b : UInt8 => (b.toNat : Int)) = id := by
    funext b
    simp
  rw [this]
  simp
theorem sbs_str {t : List Int} (h : ∀ x ∈ t, 0 ≤ x ∧ x < 256) : sbs (strOfNums t) = t := by
  unfold sbs
  rw [strOfNums_data, List.map_map]
  conv => rhs; rw [← List.map_id t]
  refine List.map_congr_left fun x hx => ?_
  have := h x hx
  simp only [Function.comp, id, UInt8.toNat_ofNat']
  omega
theorem str_inj {s t : List Int} (hs : ∀ x ∈ s, 0 ≤ x ∧ x < 256) (ht : ∀ x ∈ t, 0 ≤ x ∧ x < 256) : strOfNums s = strOfNums t ↔ s = t := by
  refine ⟨fun h => ?_, fun h => by rw [h]⟩
  rw [← sbs_str hs, ← sbs_str ht, h]

/-- The text of a text by halves. -/
theorem textR_txt : ∀ (f : Nat) (L : List Ent) (bs : List Int), SOk L → DOk L → 1 ≤ bs.length → bs.length ≤ f → bs.length ≤ 65536 → (∀ x ∈ bs, 0 ≤ x ∧ x < 256) → txt (textR f L bs).1 (textR f L bs).2 = bs := by
  intro f
  induction f with
  | zero => intro L bs _ _ h1 h2; omega
  | succ f ih =>
    intro L bs hs hd h1 h2 h3 hr
    have hok := textR_ok (f + 1) L bs hs hd h1 h2 h3 hr
    revert hok
    unfold textR
    by_cases h : bs.length = 1
    · rw [if_pos h]
      obtain ⟨b, rfl⟩ : ∃ b, bs = [b] := List.length_eq_one_iff.1 h
      intro hok
      have e := ent_letter hd b
      have k := txt_letter hok.known hok.ne (by show (entAt (addL L (letterEnt b)) (addI L (letterEnt b))).rule.kind = 1; rw [e]; rfl)
      refine k.trans ?_
      show [(entAt (addL L (letterEnt b)) (addI L (letterEnt b))).rule.letter] = _
      rw [e]; rfl
    · rw [if_neg h]
      intro hok
      have ra : ∀ x ∈ bs.take (bs.length / 2), 0 ≤ x ∧ x < 256 := fun x hx => hr x (List.mem_of_mem_take hx)
      have rb : ∀ x ∈ bs.drop (bs.length / 2), 0 ≤ x ∧ x < 256 := fun x hx => hr x (List.mem_of_mem_drop hx)
      have ta := textR_ok f L (bs.take (bs.length / 2)) hs hd (by simp; omega) (by simp; omega) (by simp; omega) ra
      have tb := textR_ok f (textR f L (bs.take (bs.length / 2))).1 (bs.drop (bs.length / 2)) ta.sok ta.dok (by simp; omega) (by simp; omega) (by simp; omega) rb
      have ia := ih L (bs.take (bs.length / 2)) hs hd (by simp; omega) (by simp; omega) (by simp; omega) ra
      have ib := ih (textR f L (bs.take (bs.length / 2))).1 (bs.drop (bs.length / 2)) ta.sok ta.dok (by simp; omega) (by simp; omega) (by simp; omega) rb
      generalize textR f L (bs.take (bs.length / 2)) = XA at *
      generalize textR f XA.1 (bs.drop (bs.length / 2)) = XB at *
      obtain ⟨A, a⟩ := XA
      obtain ⟨C, c⟩ := XB
      dsimp only at *
      have e := ent_pair tb.dok a c
      obtain ⟨M, hM⟩ := tb.ext
      obtain ⟨N, hN⟩ := addL_ext C (pairEnt C a c)
      have ka : isKnown C a := by rw [hM]; exact isKnown_append M ta.known
      have k := txt_pair hok.dok hok.known hok.ne (by show (entAt (addL C (pairEnt C a c)) (addI C (pairEnt C a c))).rule.kind = 2; rw [e]; rfl)
      refine k.trans ?_
      show txt (addL C (pairEnt C a c)) (entAt (addL C (pairEnt C a c)) (addI C (pairEnt C a c))).rule.left ++ txt (addL C (pairEnt C a c)) (entAt (addL C (pairEnt C a c)) (addI C (pairEnt C a c))).rule.right = _
      rw [e]
      show txt (addL C (pairEnt C a c)) a ++ txt (addL C (pairEnt C a c)) c = _
      rw [hN, txt_append tb.dok N ka, txt_append tb.dok N tb.known]
      have ea : txt C a = txt A a := by rw [hM]; exact txt_append ta.dok M ta.known
      rw [ea, ia, ib, List.take_append_drop]

theorem textR_bal {f : Nat} {L : List Ent} {bs : List Int} (hs : SOk L) (hd : DOk L) (h1 : 1 ≤ bs.length) (h2 : bs.length ≤ f) (h3 : bs.length ≤ 65536) (hr : ∀ x ∈ bs, 0 ≤ x ∧ x < 256) :
    Bal (textR f L bs).1 (textR f L bs).2 bs (clog bs.length) ∧ Grows L (textR f L bs).1 (2 * bs.length) := by
  have h := textR_ok f L bs hs hd h1 h2 h3 hr
  exact ⟨⟨h.known, h.ne, textR_txt f L bs hs hd h1 h2 h3 hr, h.even, h.depth⟩, ⟨h.ext, by have := h.len; omega, h.sok, h.dok⟩⟩

/-- Text of any letters. -/
theorem sto_Text {B : Nat} {w : World} {p mb : Nat} {most : Int} {L : List Ent} {bs : List Int} (hR : Room B w p mb most L (2 * bs.length)) (bb off cap : Nat) (hB : BytesAt w bb off bs) (h3 : bs.length ≤ 65536) (hc : bs.length ≤ cap) (hc2 : cap ≤ 9223372036854775807) :
    Calls Tryz.prog 31 #[.pointer (some ⟨p, 0, none⟩), .slice (some ⟨bb, off, none⟩) bs.length cap] w (ZPost B w p mb most L bs (fun d k => k ≤ 2 * bs.length)) := by
  by_cases h0 : bs.length = 0
  · have e : bs = [] := List.eq_nil_of_length_eq_zero h0
    subst e
    refine (bal_Text_nil (w := w) (p := p) (some ⟨bb, off, none⟩) cap).mono ?_
    rintro e w' ⟨rfl, rfl⟩
    exact ZPost.same hR (Fr0.refl w) (BalZ.zero L) (by simp)
  · obtain ⟨sv, hS, s1, s2, s3⟩ := hR.st
    have hb := textR_bal (f := bs.length) hR.sok hR.dok (by omega) (Nat.le_refl _) h3 hB.rng
    refine (bal_Text hS hR.sok hR.dok bb off bs.length cap bs hB rfl (by omega) h3 hc hc2 hR.most hR.big).mono ?_
    rintro e w' ⟨rfl, hst⟩
    obtain ⟨q1, q2⟩ := Sto.step hS s1 s2 s3 hR.base hst
    exact ⟨_, _, _, _, rfl, q1, q2, hb.2, hb.1.z, Nat.le_refl _⟩

theorem sto_TextN {B : Nat} {w : World} {p mb : Nat} {most : Int} {L : List Ent} {bs : List Int} {n : Nat} (hn : bs.length = n) (hR : Room B w p mb most L (2 * n)) (bb off cap : Nat) (hB : BytesAt w bb off bs) (h3 : n ≤ 65536) (hc : n ≤ cap) (hc2 : cap ≤ 9223372036854775807) :
    Calls Tryz.prog 31 #[.pointer (some ⟨p, 0, none⟩), .slice (some ⟨bb, off, none⟩) n cap] w (ZPost B w p mb most L bs (fun d k => k ≤ 2 * n)) := by
  subst hn
  exact sto_Text hR bb off cap hB h3 hc hc2

/-- The bytes of a string, as a conversion leaves them. -/
theorem bytes_conv (w : World) (s : ByteArray) (cap : Nat) (f : Nat × Nat) : BytesAt (w.alloc (.cells (bytesRow s cap) 5 f)) w.heap.size 0 (sbs s) := by
  refine ⟨⟨_, _, alloc_at _ _ _ rfl, fun i hi => ?_⟩, sbs_rng s⟩
  have hs : i < s.data.size := by rw [sbs_len] at hi; exact hi
  rw [Nat.zero_add, bytesRow_at s cap i hs]
  simp [sbs]

theorem bytes_convH (w : World) (H : Nat) (hH : w.heap.size = H) (s : ByteArray) (cap : Nat) (f : Nat × Nat) : BytesAt (w.alloc (.cells (bytesRow s cap) 5 f)).drew H 0 (sbs s) := by
  subst hH
  exact ⟨(bytes_conv w s cap f).blk, sbs_rng s⟩

theorem conv_bytes (w : World) (s : ByteArray) : ∃ cap f, (convert 9 72 (.string s)).run Tryz.prog w = .ok (.slice (some ⟨w.heap.size, 0, none⟩) s.size cap) (w.alloc (.cells (bytesRow s cap) 5 f)).drew ∧ s.size ≤ cap ∧ (s.size ≤ maxLen → cap ≤ maxLen) :=
  ⟨grownCap w s.size 0 5, _, run_bytes_of_string w 9 72 5 s Tryz.underlying9 Tryz.underlying72 Tryz.underlying5, grownCap_ge _ _ _ _, fun h => grownCap_le_maxLen _ _ _ _ h⟩

end Go.Proofs.YtclpndigmidjkaaGreat

/- The walks of balance.text and balance.Text. -/
import Derived.Test.YtclpndigmidjkaaGreatSt8
import Derived.Test.YtclpndigmidjkaaGreatModel3
set_option linter.unusedSimpArgs false
set_option linter.unusedVariables false
namespace Go.Proofs.YtclpndigmidjkaaGreat
open Go.RowKit

/-- Letters that lie in a row of bytes. -/
structure BytesAt (w : World) (bb off : Nat) (bs : List Int) : Prop where
  blk : ∃ cur fr, w.heap[bb]? = some (.cells cur 5 fr) ∧ ∀ i (h : i < bs.length), cur[off + i]? = some (.int .u8 bs[i])
  rng : ∀ x ∈ bs, 0 ≤ x ∧ x < 256

theorem BytesAt.cell {w : World} {bb off : Nat} {bs : List Int} (h : BytesAt w bb off bs) (i : Nat) (hi : i < bs.length) : w.cell? ⟨bb, off + i, none⟩ = some (.int .u8 bs[i]) := by
  obtain ⟨cur, fr, h1, h2⟩ := h.blk
  rw [cell_of_block h1]; exact h2 i hi

theorem BytesAt.take {w : World} {bb off : Nat} {bs : List Int} (h : BytesAt w bb off bs) (n : Nat) : BytesAt w bb off (bs.take n) := by
  obtain ⟨cur, fr, h1, h2⟩ := h.blk
  refine ⟨⟨cur, fr, h1, fun i hi => ?_⟩, fun x hx => h.rng x (List.mem_of_mem_take hx)⟩
  have : i < bs.length := by simp at hi; omega
  rw [h2 i this, List.getElem_take]

theorem BytesAt.drop {w : World} {bb off : Nat} {bs : List Int} (h : BytesAt w bb off bs) (n : Nat) : BytesAt w bb (off + n) (bs.drop n) := by
  obtain ⟨cur, fr, h1, h2⟩ := h.blk
  refine ⟨⟨cur, fr, h1, fun i hi => ?_⟩, fun x hx => h.rng x (List.mem_of_mem_drop hx)⟩
  have : n + i < bs.length := by simp at hi; omega
  rw [Nat.add_assoc, h2 (n + i) this, List.getElem_drop]

theorem Stepped.next {w w1 w' : World} {p mb : Nat} {most : Int} {sv sv1 : Value} {L2 : List Ent} (h2 : Fr (fun k => k = p ∨ k = mb ∨ sv.ownBlock = some k) w w1) (h3 : ∀ k, sv1.ownBlock = some k → sv.ownBlock = some k ∨ w.heap.size ≤ k)
    (k : Stepped w1 w' p mb most sv1 L2) : Stepped w w' p mb most sv L2 := by
  obtain ⟨sv2, k1, k2, k3⟩ := k
  refine ⟨sv2, k1, Fr.trans h2 k2 ?_, ?_⟩
  · rintro i (hi | hi | hi) hlt
    · exact .inl hi
    · exact .inr (.inl hi)
    · exact (h3 i hi).elim (fun h => .inr (.inr h)) (fun h => by omega)
  · intro i hi
    rcases k3 i hi with h | h
    · exact h3 i h
    · exact .inr (by have := h2.size; omega)

/-- A block of another type than a store's is as it was. -/
theorem Stepped.block {w w' : World} {p mb : Nat} {most : Int} {sv : Value} {L L' : List Ent} (hS : St w p mb most sv L) (h : Stepped w w' p mb most sv L') {b : Nat} {cs : Array Value} {t : TypeId} {f : Nat × Nat}
    (hb : w.heap[b]? = some (.cells cs t f)) (h1 : t ≠ 121) (h2 : t ≠ 183) : w'.heap[b]? = some (.cells cs t f) := by
  obtain ⟨sv', _, hf, _⟩ := h
  refine hf.kept hb ?_
  rintro (e | e | e)
  · rw [e, hS.ptr] at hb; simp at hb; exact h1 hb.2.1.symm
  · rw [e, hS.mp] at hb; simp at hb
  · rcases hS.own.2 with ⟨e1, _⟩ | ⟨g, cap, cur, e1, _, hg, _⟩
    · rw [e1] at e; simp [Value.ownBlock] at e
    · rw [e1] at e
      simp [Value.ownBlock] at e
      subst e
      rw [hg] at hb; simp at hb; exact h2 hb.2.1.symm

theorem Stepped.bytes {w w' : World} {p mb : Nat} {most : Int} {sv : Value} {L L' : List Ent} (hS : St w p mb most sv L) (h : Stepped w w' p mb most sv L') {bb off : Nat} {bs : List Int} (hb : BytesAt w bb off bs) : BytesAt w' bb off bs := by
  obtain ⟨cur, fr, h1, h2⟩ := hb.blk
  exact ⟨⟨cur, fr, h.block hS h1 (by decide) (by decide), h2⟩, hb.rng⟩

set_option maxRecDepth 100000 in
set_option maxHeartbeats 1000000 in
theorem bal_text : ∀ (f : Nat) (w : World) (p mb : Nat) (most : Int) (sv : Value) (L : List Ent) (bb off n cap : Nat) (bs : List Int), St w p mb most sv L → SOk L → DOk L → BytesAt w bb off bs → bs.length = n → 1 ≤ n → n ≤ f → n ≤ 65536 → n ≤ cap → cap ≤ 140737488351232 →
    ((L.length + 2 * n : Nat) : Int) ≤ most → L.length + 2 * n ≤ 1048576 →
    Calls Tryz.prog 68 #[.pointer (some ⟨p, 0, none⟩), .slice (some ⟨bb, off, none⟩) n cap] w fun e w' => e = .returned (.tuple #[.int .i64 (textR f L bs).2, .nilIface]) ∧ Stepped w w' p mb most sv (textR f L bs).1 := by
  intro f
  induction f with
  | zero => intro w p mb most sv L bb off n cap bs _ _ _ _ _ h1 h2; omega
  | succ f ih =>
    intro w p mb most sv L bb off n cap bs hS hO hD hB hlen h1 h2 h3 hc hc2 hm hL
    by_cases hn : n = 1
    · have e1 : (textR (f + 1) L bs) = (addL L (letterEnt (bs.getD 0 0)), addI L (letterEnt (bs.getD 0 0))) := by
        unfold textR; rw [if_pos (by omega)]
      rw [e1]
      have e2 : bs.getD 0 0 = bs[0]'(by omega) := by rw [List.getD_eq_getElem?_getD, List.getElem?_eq_getElem (by omega)]; rfl
      rw [e2]
      have hr := hB.rng (bs[0]'(by omega)) (List.getElem_mem _)
      have CL := Lib.hid (st_Letter hS (bs[0]'(by omega)) hr.1 hr.2 (by omega) (by omega))
      have hb0 := hB.cell 0 (by omega)
      rw [Nat.add_zero] at hb0
      generalize bs[0]'(by omega) = b at *
      subst hn
      clear ih hS hO hD hB e1 e2 hm hlen
      go_enter Tryz.func68, Tryz.ntmps68
      go_wp2_with fail
      refine CL.out.mono ?_
      rintro e w1 ⟨rfl, hst⟩
      go_wp2_with fail
      go_ret2
      exact ⟨rfl, hst⟩
    · have e1 : (textR (f + 1) L bs) = (addL (textR f (textR f L (bs.take (n / 2))).1 (bs.drop (n / 2))).1 (pairEnt (textR f (textR f L (bs.take (n / 2))).1 (bs.drop (n / 2))).1 (textR f L (bs.take (n / 2))).2 (textR f (textR f L (bs.take (n / 2))).1 (bs.drop (n / 2))).2), addI (textR f (textR f L (bs.take (n / 2))).1 (bs.drop (n / 2))).1 (pairEnt (textR f (textR f L (bs.take (n / 2))).1 (bs.drop (n / 2))).1 (textR f L (bs.take (n / 2))).2 (textR f (textR f L (bs.take (n / 2))).1 (bs.drop (n / 2))).2)) := by
        conv => lhs; unfold textR
        rw [if_neg (by omega), hlen]
      rw [e1]
      have la : (bs.take (n / 2)).length = n / 2 := by simp; omega
      have lb : (bs.drop (n / 2)).length = n - n / 2 := by simp; omega
      have ta := textR_ok f L (bs.take (n / 2)) hO hD (by omega) (by omega) (by omega) (hB.take _).rng
      have tb := textR_ok f (textR f L (bs.take (n / 2))).1 (bs.drop (n / 2)) ta.sok ta.dok (by omega) (by omega) (by omega) (hB.drop _).rng
      rw [la] at ta
      rw [lb] at tb
      have c1 := ih w p mb most sv L bb off (n / 2) cap (bs.take (n / 2)) hS hO hD (hB.take _) la (by omega) (by omega) (by omega) (by omega) hc2 (by omega) (by omega)
      have hla := ta.len
      have hlb := tb.len
      have c2 := fun w1 sv1 (h : St w1 p mb most sv1 (textR f L (bs.take (n / 2))).1) (hb : BytesAt w1 bb off bs) => ih w1 p mb most sv1 _ bb (off + n / 2) (n - n / 2) (cap - n / 2) (bs.drop (n / 2)) h ta.sok ta.dok (hb.drop _) lb (by omega) (by omega) (by omega) (by omega) (by omega) (by omega) (by omega)
      obtain ⟨M2, eM⟩ := tb.ext
      have ka : isKnown (textR f (textR f L (bs.take (n / 2))).1 (bs.drop (n / 2))).1 (textR f L (bs.take (n / 2))).2 := by rw [eM]; exact isKnown_append M2 ta.known
      have ea : entAt (textR f (textR f L (bs.take (n / 2))).1 (bs.drop (n / 2))).1 (textR f L (bs.take (n / 2))).2 = entAt (textR f L (bs.take (n / 2))).1 (textR f L (bs.take (n / 2))).2 := by rw [eM]; exact entAt_append _ M2 _ ta.known
      have hw1 := ta.wlen
      have hw2 := tb.wlen
      have c3 := fun w2 sv2 (h : St w2 p mb most sv2 (textR f (textR f L (bs.take (n / 2))).1 (bs.drop (n / 2))).1) => st_Pair h tb.sok _ _ ka tb.known ta.ne tb.ne (by rw [ea, hw1, hw2]; omega) (by omega) (by omega)
      have hB0 := fun w1 (h : Stepped w w1 p mb most sv (textR f L (bs.take (n / 2))).1) => h.bytes hS hB
      have C1 := Lib.hid c1
      have C2 := Lib.hid c2
      have C3 := Lib.hid c3
      have HB := Lib.hid hB0
      clear c1 c2 c3 hB0 ea ka hw1 hw2 eM ta tb hO hD hB hS ih e1 hla hlb la lb hm hlen
      generalize (textR f (textR f L (bs.take (n / 2))).1 (bs.drop (n / 2))).2 = idb at *
      generalize (textR f (textR f L (bs.take (n / 2))).1 (bs.drop (n / 2))).1 = LB at *
      generalize (textR f L (bs.take (n / 2))).2 = ida at *
      generalize (textR f L (bs.take (n / 2))).1 = LA at *
      have hn1 : ((n : Int) == 1) = false := by simp; omega
      have hb1 : (0 : Int) ≤ (n : Int) / 2 := by omega
      have hb2 : (n : Int) / 2 ≤ (cap : Int) := by omega
      have hb3 : (n : Int) / 2 ≤ (n : Int) := by omega
      go_enter Tryz.func68, Tryz.ntmps68
      go_wp2_with fail
      refine C1.out.mono ?_
      rintro e w1 ⟨rfl, hst1⟩
      have hb := HB.out w1 hst1
      obtain ⟨sv1, hS1, hf1, hv1⟩ := hst1
      have D2 := Lib.hid (C2.out w1 sv1 hS1 hb)
      have HF1 := Lib.hid hf1
      have HV1 := Lib.hid hv1
      clear hb hS1 hf1 hv1 C2 HB C1
      go_wp2_with fail
      refine D2.out.mono ?_
      rintro e w2 ⟨rfl, hst2⟩
      obtain ⟨sv2, hS2, hf2, hv2⟩ := hst2
      have D3 := Lib.hid (C3.out w2 sv2 hS2)
      have HF2 := Lib.hid hf2
      have HV2 := Lib.hid hv2
      clear D2 hS2 hf2 hv2 C3
      go_wp2_with fail
      refine D3.out.mono ?_
      rintro e w3 ⟨rfl, hst3⟩
      go_wp2_with fail
      go_ret2
      exact ⟨rfl, Stepped.next HF1.out HV1.out (Stepped.next HF2.out HV2.out hst3)⟩

set_option maxRecDepth 100000 in
set_option maxHeartbeats 1000000 in
theorem bal_Text {w : World} {p mb : Nat} {most : Int} {sv : Value} {L : List Ent} (hS : St w p mb most sv L) (hO : SOk L) (hD : DOk L) (bb off n cap : Nat) (bs : List Int) (hB : BytesAt w bb off bs) (hlen : bs.length = n) (h1 : 1 ≤ n) (h3 : n ≤ 65536) (hc : n ≤ cap) (hc2 : cap ≤ 140737488351232)
    (hm : ((L.length + 2 * n : Nat) : Int) ≤ most) (hL : L.length + 2 * n ≤ 1048576) :
    Calls Tryz.prog 31 #[.pointer (some ⟨p, 0, none⟩), .slice (some ⟨bb, off, none⟩) n cap] w fun e w' => e = .returned (.tuple #[.int .i64 (textR n L bs).2, .nilIface]) ∧ Stepped w w' p mb most sv (textR n L bs).1 := by
  have C1 := Lib.hid (bal_text n w p mb most sv L bb off n cap bs hS hO hD hB hlen h1 (Nat.le_refl _) h3 hc hc2 hm hL)
  have hn0 : ((n : Int) == 0) = false := by simp; omega
  clear hS hO hD hB hlen hm hL
  generalize (textR n L bs).2 = id at *
  generalize (textR n L bs).1 = LB at *
  go_enter Tryz.func31, Tryz.ntmps31
  go_wp2_with fail
  refine C1.out.mono ?_
  rintro e w1 ⟨rfl, hst1⟩
  go_wp2_with fail
  go_ret2
  exact ⟨rfl, hst1⟩

set_option maxRecDepth 100000 in
set_option maxHeartbeats 1000000 in
theorem bal_Text_nil {w : World} {p : Nat} (a : Option Addr) (cap : Nat) :
    Calls Tryz.prog 31 #[.pointer (some ⟨p, 0, none⟩), .slice a 0 cap] w fun e w' => e = .returned (.tuple #[.int .i64 0, .nilIface]) ∧ w = w' := by
  go_enter Tryz.func31, Tryz.ntmps31
  go_wp2_with fail
  go_ret2
  exact ⟨rfl, rfl⟩

end Go.Proofs.YtclpndigmidjkaaGreat

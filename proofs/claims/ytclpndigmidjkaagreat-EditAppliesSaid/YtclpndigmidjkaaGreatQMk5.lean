/- The walk of evergreenref12.Build. -/
import Derived.Test.YtclpndigmidjkaaGreatQMk4
set_option linter.unusedSimpArgs false
set_option linter.unusedVariables false
namespace Go.Proofs.YtclpndigmidjkaaGreat
open Go.RowKit

/-- The state of Build's loop. -/
structure BuR (w wr : World) (ms : List Mk) (k : Nat) (Z : Nat) (v va vb : Value) : Prop where
  fr : Fr0 w wr
  s : wr.heap[Z + 1]? = some (.cells #[va, vb] 34 (0, 0))
  r : wr.heap[Z]? = some (.cells #[.slice none 0 0, .slice none 0 0] 34 (0, 0))
  st : RSt wr va vb (allL (ms.take k)).1
  own : wr.ownsRow w.heap.size 39 1 v (allL (ms.take k)).2.length ((allL (ms.take k)).2.map fun x => Value.int .i64 x)

theorem idv_map (xs : List Int) : xs.flatMap idv = xs.map fun x => Value.int .i64 x := by
  induction xs with
  | nil => rfl
  | cons a r ih => rw [List.flatMap_cons, ih]; rfl

/-- What Build leaves. -/
def BuPost (w : World) (ms : List Mk) (e : Ending) (w' : World) : Prop :=
  ∃ va vb v, e = .returned (.tuple #[.agg #[va, vb], v]) ∧ Fr0 w w' ∧ RSt w' va vb (allL ms).1 ∧ w'.ownsRow w.heap.size 39 1 v (allL ms).2.length ((allL ms).2.map fun x => Value.int .i64 x)

set_option maxRecDepth 100000 in
set_option maxHeartbeats 4000000 in
theorem ref12_Build {B : Nat} {w : World} {a : Option Addr} {cap : Nat} {ms : List Mk} (hA : RG Mk.vals 5 B w a ms) (hl : ms.length ≤ 100) (hm : ∀ m ∈ ms, m.Ok) :
    Calls Tryz.prog 12 #[.slice a ms.length cap] w (BuPost w ms) := by
  have HA := Lib.hid hA
  have HOK := Lib.hid (allL_ok ms hm)
  have HM := Lib.hid hm
  clear hA hm
  have H0 : Hid (BuR w (((w.alloc (.cells #[.slice none 0 0, .slice none 0 0] 34 (0, 0))).alloc (.cells #[.slice none 0 0, .slice none 0 0] 34 (0, 0))).alloc (.cells #[.int .i64 0] 39 (0, 0))) ms 0 w.heap.size (.slice (some ⟨w.heap.size + 2, 0, none⟩) 1 1) (.slice none 0 0) (.slice none 0 0)) :=
    ⟨(((Fr0.refl w).alloc _).alloc _).alloc _, alloc3_1 w _ _ _, alloc3_0 w _ _ _, RSt.nil _, ⟨rfl, .inr ⟨w.heap.size + 2, 1, #[.int .i64 0], rfl, by omega, alloc3_2 w _ _ _, Nat.le_refl _, by unfold maxLen; omega, rfl, rfl⟩⟩⟩
  go_enter Tryz.func12, Tryz.ntmps12
  go_wp2_with fail
  obtain ⟨Z, hZ⟩ : ∃ Z, Z = w.heap.size := ⟨_, rfl⟩
  rw [← hZ] at H0 ⊢
  have HZS := Lib.hid hZ
  clear hZ
  go_loopw [5, 6] (fun v i wr => ∃ (k : Nat) (va vb : Value), k ≤ ms.length ∧ i = .int .i64 k ∧ BuR w wr ms k Z v va vb) (fun _ i _ => ms.length - (intOf i).toNat)
  case atStart => exact ⟨0, _, _, Nat.zero_le _, rfl, by first | exact H0.out | (have := H0.out; simpa using this)⟩
  case round =>
    clear H0
    obtain ⟨k, va, vb, hk, rfl, hr⟩ := hrel
    obtain ⟨ok1, ok2, ok3, ok4⟩ := HOK.out k hk
    by_cases hlt : k < ms.length
    · obtain ⟨b, off, rfl, lb, _, hc⟩ := (HA.out.kept0 hr.fr) k hlt
      obtain ⟨ca, ccap, rfl, hrg⟩ := rg_of_own (vals := idv) (size := 1) (B := 0) (w := wr) (fun _ _ => rfl) (by rw [idv_map]; exact hr.own) (by decide) (by decide)
      have c0 := hc 0 _ rfl
      have c1 := hc 1 _ rfl
      have c2 := hc 2 _ rfl
      have c3 := hc 3 _ rfl
      have c4 := hc 4 _ rfl
      rw [Nat.add_zero] at c0
      have hmk := HM.out ms[k] (List.getElem_mem _)
      have CO := Lib.hid (fun W (hW : Fr0 wr W) => ref12_One (cap := ccap) (hr.st.kept0 hW) ok1 (by omega) ms[k] hmk (allL (ms.take k)).2 (hrg.kept0 hW) (by omega) (by omega) ok2)
      have HTK := Lib.hid (allL_take ms k hlt)
      have HRR := Lib.hid hr
      have hrl : (allL (ms.take k)).2.length ≤ 1000000 := by omega
      obtain ⟨s0, s1, ls⟩ := cells2w hr.s
      have hKEY : Hid (∀ W, Fr0 wr W → Fr0 wr W ∧ W.cell? ⟨Z + 1, 0, none⟩ = some va ∧ W.cell? ⟨Z + 1, 1, none⟩ = some vb ∧ W.cell? ⟨b, off + k * 5, none⟩ = some (.int .i64 ms[k].kind) ∧ W.cell? ⟨b, off + k * 5 + 1, none⟩ = some (.int .u8 ms[k].letter) ∧ W.cell? ⟨b, off + k * 5 + 2, none⟩ = some (.int .i64 ms[k].left) ∧ W.cell? ⟨b, off + k * 5 + 3, none⟩ = some (.int .i64 ms[k].right) ∧ W.cell? ⟨b, off + k * 5 + 4, none⟩ = some (.int .i64 ms[k].times)) := fun W hW => ⟨hW, (cells2w (hW.kept hr.s)).1, (cells2w (hW.kept hr.s)).2.1, (hW.cell _ _ lb).trans c0, (hW.cell _ _ lb).trans c1, (hW.cell _ _ lb).trans c2, (hW.cell _ _ lb).trans c3, (hW.cell _ _ lb).trans c4⟩
      obtain ⟨⟨ra, rcap, rfl, _⟩, ⟨la, lcap, rfl, _⟩, _, _⟩ := id hr.st
      have q0 : (0 : Int) ≤ (k : Int) := by omega
      have q1 : (k : Int) < (ms.length : Int) := by omega
      have q2 : decide (k < ms.length) = true := decide_eq_true hlt
      clear hc hr hrg hmk ok1 ok2 ok3 ok4 HA HOK HM
      generalize ms[k] = m at *
      generalize hL0 : (allL (ms.take k)).1 = L at *
      generalize hR0 : (allL (ms.take k)).2 = rs at *
      have HL0 := Lib.hid hL0
      have HR0 := Lib.hid hR0
      clear hL0 hR0
      generalize hL1 : (oneL L m rs).1 = L1 at *
      generalize hI1 : (oneL L m rs).2 = id1 at *
      clear hL1 hI1
      go_wp2_with fail
      go_region_held3 (fun w' => Fr0 wr w' ∧ w'.cell? ⟨Z + 1, 0, none⟩ = some (.slice ra L.length rcap) ∧ w'.cell? ⟨Z + 1, 1, none⟩ = some (.slice la L.length lcap) ∧ w'.cell? ⟨b, off + k * 5, none⟩ = some (.int .i64 m.kind) ∧ w'.cell? ⟨b, off + k * 5 + 1, none⟩ = some (.int .u8 m.letter) ∧ w'.cell? ⟨b, off + k * 5 + 2, none⟩ = some (.int .i64 m.left) ∧ w'.cell? ⟨b, off + k * 5 + 3, none⟩ = some (.int .i64 m.right) ∧ w'.cell? ⟨b, off + k * 5 + 4, none⟩ = some (.int .i64 m.times))
        (exact hKEY.out _ (by first | exact Fr0.refl _ | exact (Fr0.refl _).drew | exact ((Fr0.refl _).alloc _).drew | exact hff3 | exact hff3.alloc _ | exact (hff3.setCell _ _ (Nat.le_refl _)).setCell _ _ (Nat.le_refl _) | exact ((hff3.alloc _).setCell _ _ hsz3).setCell _ _ hsz3))
        ((first
          | (go_at_call 58; (with_reducible refine Calls.mono (CO.out _ (by first | exact (Fr0.refl _).drew | exact ((Fr0.refl _).alloc _).drew)) ?_); rintro e w3 ⟨va', vb', rfl, hf3, hs5⟩; obtain ⟨⟨ra', rcap', rfl, _⟩, ⟨la', lcap', rfl, _⟩, _, _⟩ := id hs5; have HS5 := Lib.hid hs5; have hff3 : Fr0 wr w3 := (by first | exact (Fr0.refl _).drew.trans hf3 | exact (((Fr0.refl _).alloc _).drew).trans hf3); have hsz3 : wr.heap.size ≤ w3.heap.size := Fr.size hff3; (try (obtain ⟨n0, n1, nf, ln⟩ := cells2f (hf3.kept (show (wr.alloc (.cells #[.slice none 0 0, .slice none 0 0] 34 (0, 0))).drew.heap[wr.heap.size]? = _ from alloc_at wr (.cells #[.slice none 0 0, .slice none 0 0] 34 (0, 0)) _ rfl)); have HNB := Lib.hid (hf3.kept (show (wr.alloc (.cells #[.slice none 0 0, .slice none 0 0] 34 (0, 0))).drew.heap[wr.heap.size]? = _ from alloc_at wr (.cells #[.slice none 0 0, .slice none 0 0] 34 (0, 0)) _ rfl)))); clear hs5 hf3)))
      · have hN := alloc_at w3 (.cells #[.slice ra' L1.length rcap', .slice la' L1.length lcap'] 34 (0, 0)) _ rfl
        have HS6 := Lib.hid (HS5.out.kept0 ((Fr0.refl _).alloc (.cells #[.slice ra' L1.length rcap', .slice la' L1.length lcap'] 34 (0, 0))))
        have F6 := hff3.alloc (.cells #[.slice ra' L1.length rcap', .slice la' L1.length lcap'] 34 (0, 0))
        generalize w3.alloc (.cells #[.slice ra' L1.length rcap', .slice la' L1.length lcap'] 34 (0, 0)) = W6 at *
        generalize w3.heap.size = NB at *
        obtain ⟨n0, n1, ln⟩ := cells2w hN
        have hs6 := F6.kept HRR.out.s
        obtain ⟨s0', s1', sf', ls'⟩ := cells2f hs6
        have HS7 := Lib.hid ((HS6.out.set hs6 0 (.slice ra' L1.length rcap')).set (setCell_block hs6 0 (.slice ra' L1.length rcap')) 1 (.slice la' L1.length lcap'))
        have hs7 := setCell_block (setCell_block hs6 0 (.slice ra' L1.length rcap')) 1 (.slice la' L1.length lcap')
        have F7 : Fr0 w ((W6.setCell ⟨Z + 1, 0, none⟩ (.slice ra' L1.length rcap')).setCell ⟨Z + 1, 1, none⟩ (.slice la' L1.length lcap')) := (((HRR.out.fr.trans F6).setCell _ _ (by have := HZS.out; show _ ≤ Z + 1; omega)).setCell _ _ (by have := HZS.out; show _ ≤ Z + 1; omega))
        have FS : Fr (fun j => j = Z + 1) W6 ((W6.setCell ⟨Z + 1, 0, none⟩ (.slice ra' L1.length rcap')).setCell ⟨Z + 1, 1, none⟩ (.slice la' L1.length lcap')) := Fr.setCell (S := fun j => j = Z + 1) (Fr.setCell (S := fun j => j = Z + 1) (Fr.refl _ W6) _ _ (fun _ => rfl)) _ _ (fun _ => rfl)
        have hrow := FS.owns (F6.owns HRR.out.own) (by
          intro j hj e
          obtain ⟨cur, hc⟩ := owns_block (F6.owns HRR.out.own) hj
          exact ne_of_types hc hs6 (by decide) e)
        have hr7 := FS.kept (F6.kept HRR.out.r) (by omega)
        rw [HR0.out] at hrow
        have HF7 := Lib.hid F7
        have HS8 := Lib.hid hs7
        have HR8 := Lib.hid hr7
        have HROW := Lib.hid hrow
        have hbs7 : w.heap.size ≤ ((W6.setCell ⟨Z + 1, 0, none⟩ (.slice ra' L1.length rcap')).setCell ⟨Z + 1, 1, none⟩ (.slice la' L1.length lcap')).heap.size := Fr.size F7
        clear hN HS6 F6 hs6 hs7 F7 FS hr7 hff3 hsz3 HS5 CO hKEY s0 s1 ls
        go_wp2_with (at_builtin; refine wpList_pushR rt_id rfl _ _ rfl w.heap.size _ rs rfl hrow (by simpa using hbs7) 39 id1 1 W6.heap.size (by simp) rfl hrl ?_; intro v' w8 hO8 hg8 hat8)
        have hF8 := grown_fr hg8
        have hne : ∀ {T : TypeId} {j : Nat} {cur : Array Value} {f : Nat × Nat}, T ≠ 39 → (((W6.setCell ⟨Z + 1, 0, none⟩ (.slice ra' L1.length rcap')).setCell ⟨Z + 1, 1, none⟩ (.slice la' L1.length lcap')).alloc (.cells #[.int .i64 id1] 39 (0, 0))).heap[j]? = some (.cells cur T f) → ¬ (Value.slice ca rs.length ccap).ownBlock = some j := by
          intro T j cur f hT hj e
          obtain ⟨cur2, hc⟩ := owns_block (HROW.out.alloc (.cells #[.int .i64 id1] 39 (0, 0))) e
          exact ne_of_types hj hc hT rfl
        have hX : BuR w w8 ms (k + 1) Z v' (.slice ra' L1.length rcap') (.slice la' L1.length lcap') := by
          have hfa := (Fr0.refl ((W6.setCell ⟨Z + 1, 0, none⟩ (.slice ra' L1.length rcap')).setCell ⟨Z + 1, 1, none⟩ (.slice la' L1.length lcap'))).alloc (.cells #[.int .i64 id1] 39 (0, 0))
          refine ⟨Fr.grown (HF7.out.alloc _) hg8 (fun j hj hlt => by have := (HROW.out.lt j hj).1; omega), hF8.kept (hfa.kept HS8.out) (hne (by decide) (hfa.kept HS8.out)), hF8.kept (hfa.kept HR8.out) (hne (by decide) (hfa.kept HR8.out)), ?_, ?_⟩
          · rw [HTK.out]
            exact (HS7.out.kept0 hfa).fr hF8 (fun j cur f hj => hne (by decide) hj) (fun j cur f hj => hne (by decide) hj)
          · rw [HTK.out]
            exact hO8
        go_roundw
        case rel => exact ⟨k + 1, _, _, by omega, by go_num, hX⟩
        case measure => simp [intOf]; omega
      · have hN := setCell_block (setCell_block HNB.out 0 (.slice ra' L1.length rcap')) 1 (.slice la' L1.length lcap')
        have HS6 := Lib.hid ((HS5.out.set HNB.out 0 (.slice ra' L1.length rcap')).set (setCell_block HNB.out 0 (.slice ra' L1.length rcap')) 1 (.slice la' L1.length lcap'))
        have F6 : Fr0 wr ((w3.setCell ⟨wr.heap.size, 0, none⟩ (.slice ra' L1.length rcap')).setCell ⟨wr.heap.size, 1, none⟩ (.slice la' L1.length lcap')) := (hff3.setCell _ _ (Nat.le_refl _)).setCell _ _ (Nat.le_refl _)
        clear n0 n1 nf ln HNB
        generalize (w3.setCell ⟨wr.heap.size, 0, none⟩ (.slice ra' L1.length rcap')).setCell ⟨wr.heap.size, 1, none⟩ (.slice la' L1.length lcap') = W6 at *
        obtain ⟨NB, hNB⟩ : ∃ NB, NB = wr.heap.size := ⟨_, rfl⟩
        rw [← hNB] at hN ⊢
        clear hNB
        obtain ⟨n0, n1, ln⟩ := cells2w hN
        have hs6 := F6.kept HRR.out.s
        obtain ⟨s0', s1', sf', ls'⟩ := cells2f hs6
        have HS7 := Lib.hid ((HS6.out.set hs6 0 (.slice ra' L1.length rcap')).set (setCell_block hs6 0 (.slice ra' L1.length rcap')) 1 (.slice la' L1.length lcap'))
        have hs7 := setCell_block (setCell_block hs6 0 (.slice ra' L1.length rcap')) 1 (.slice la' L1.length lcap')
        have F7 : Fr0 w ((W6.setCell ⟨Z + 1, 0, none⟩ (.slice ra' L1.length rcap')).setCell ⟨Z + 1, 1, none⟩ (.slice la' L1.length lcap')) := (((HRR.out.fr.trans F6).setCell _ _ (by have := HZS.out; show _ ≤ Z + 1; omega)).setCell _ _ (by have := HZS.out; show _ ≤ Z + 1; omega))
        have FS : Fr (fun j => j = Z + 1) W6 ((W6.setCell ⟨Z + 1, 0, none⟩ (.slice ra' L1.length rcap')).setCell ⟨Z + 1, 1, none⟩ (.slice la' L1.length lcap')) := Fr.setCell (S := fun j => j = Z + 1) (Fr.setCell (S := fun j => j = Z + 1) (Fr.refl _ W6) _ _ (fun _ => rfl)) _ _ (fun _ => rfl)
        have hrow := FS.owns (F6.owns HRR.out.own) (by
          intro j hj e
          obtain ⟨cur, hc⟩ := owns_block (F6.owns HRR.out.own) hj
          exact ne_of_types hc hs6 (by decide) e)
        have hr7 := FS.kept (F6.kept HRR.out.r) (by omega)
        rw [HR0.out] at hrow
        have HF7 := Lib.hid F7
        have HS8 := Lib.hid hs7
        have HR8 := Lib.hid hr7
        have HROW := Lib.hid hrow
        have hbs7 : w.heap.size ≤ ((W6.setCell ⟨Z + 1, 0, none⟩ (.slice ra' L1.length rcap')).setCell ⟨Z + 1, 1, none⟩ (.slice la' L1.length lcap')).heap.size := Fr.size F7
        clear hN HS6 F6 hs6 hs7 F7 FS hr7 hff3 hsz3 HS5 CO hKEY s0 s1 ls
        go_wp2_with (at_builtin; refine wpList_pushR rt_id rfl _ _ rfl w.heap.size _ rs rfl hrow (by simpa using hbs7) 39 id1 1 W6.heap.size (by simp) rfl hrl ?_; intro v' w8 hO8 hg8 hat8)
        have hF8 := grown_fr hg8
        have hne : ∀ {T : TypeId} {j : Nat} {cur : Array Value} {f : Nat × Nat}, T ≠ 39 → (((W6.setCell ⟨Z + 1, 0, none⟩ (.slice ra' L1.length rcap')).setCell ⟨Z + 1, 1, none⟩ (.slice la' L1.length lcap')).alloc (.cells #[.int .i64 id1] 39 (0, 0))).heap[j]? = some (.cells cur T f) → ¬ (Value.slice ca rs.length ccap).ownBlock = some j := by
          intro T j cur f hT hj e
          obtain ⟨cur2, hc⟩ := owns_block (HROW.out.alloc (.cells #[.int .i64 id1] 39 (0, 0))) e
          exact ne_of_types hj hc hT rfl
        have hX : BuR w w8 ms (k + 1) Z v' (.slice ra' L1.length rcap') (.slice la' L1.length lcap') := by
          have hfa := (Fr0.refl ((W6.setCell ⟨Z + 1, 0, none⟩ (.slice ra' L1.length rcap')).setCell ⟨Z + 1, 1, none⟩ (.slice la' L1.length lcap'))).alloc (.cells #[.int .i64 id1] 39 (0, 0))
          refine ⟨Fr.grown (HF7.out.alloc _) hg8 (fun j hj hlt => by have := (HROW.out.lt j hj).1; omega), hF8.kept (hfa.kept HS8.out) (hne (by decide) (hfa.kept HS8.out)), hF8.kept (hfa.kept HR8.out) (hne (by decide) (hfa.kept HR8.out)), ?_, ?_⟩
          · rw [HTK.out]
            exact (HS7.out.kept0 hfa).fr hF8 (fun j cur f hj => hne (by decide) hj) (fun j cur f hj => hne (by decide) hj)
          · rw [HTK.out]
            exact hO8
        go_roundw
        case rel => exact ⟨k + 1, _, _, by omega, by go_num, hX⟩
        case measure => simp [intOf]; omega
    · have hke : ms.take k = ms := List.take_of_length_le (by omega)
      have q2 : decide (k < ms.length) = false := decide_eq_false hlt
      have hst := hr.st
      have hown := hr.own
      rw [hke] at hst hown
      obtain ⟨⟨ra, rcap, rfl, _⟩, ⟨la, lcap, rfl, _⟩, _, _⟩ := id hst
      obtain ⟨ca, ccap, rfl⟩ := owns_form hr.own
      rw [hke] at hown ⊢
      obtain ⟨s0, s1, ls⟩ := cells2w hr.s
      obtain ⟨r0, r1, rf, lr⟩ := cells2f hr.r
      have hE1 := setCell_block hr.r 0 (.slice ra (allL ms).1.length rcap)
      have hE2 := setCell_block hE1 1 (.slice la (allL ms).1.length lcap)
      have HS8 := Lib.hid ((hst.set hr.r 0 (.slice ra (allL ms).1.length rcap)).set hE1 1 (.slice la (allL ms).1.length lcap))
      have FS : Fr (fun j => j = Z) wr ((wr.setCell ⟨Z, 0, none⟩ (.slice ra (allL ms).1.length rcap)).setCell ⟨Z, 1, none⟩ (.slice la (allL ms).1.length lcap)) := Fr.setCell (S := fun j => j = Z) (Fr.setCell (S := fun j => j = Z) (Fr.refl _ wr) _ _ (fun _ => rfl)) _ _ (fun _ => rfl)
      have HO8 := Lib.hid (FS.owns hown (by
        intro j hj e
        obtain ⟨cur, hc⟩ := owns_block hown hj
        exact ne_of_types hc hr.r (by decide) e))
      have HF8 : Hid (Fr0 w ((wr.setCell ⟨Z, 0, none⟩ (.slice ra (allL ms).1.length rcap)).setCell ⟨Z, 1, none⟩ (.slice la (allL ms).1.length lcap))) := (hr.fr.setCell _ _ (by have := HZS.out; show _ ≤ Z; omega)).setCell _ _ (by have := HZS.out; show _ ≤ Z; omega)
      obtain ⟨e0, e1, _⟩ := cells2w hE2
      have E0 := Lib.hid e0
      have E1 := Lib.hid e1
      clear hr hst hown hE1 hE2 FS e0 e1 ok1 ok2 ok3 ok4 HA HOK HM hke
      go_wp2_with fail
      exact bodyPost_ret (v := .tuple #[.agg #[.slice ra (allL ms).1.length rcap, .slice la (allL ms).1.length lcap], .slice ca (allL ms).2.length ccap]) (by simp [results, Tryz.results12, go_sem, E0.out, E1.out]) rfl ⟨_, _, _, rfl, HF8.out, HS8.out, HO8.out⟩

end Go.Proofs.YtclpndigmidjkaaGreat

/- The walk of blame.Of over any patches. -/
import Derived.Test.YtbokcmkbnkncoaaPatd
set_option linter.unusedSimpArgs false
set_option linter.unusedVariables false
namespace Go.Proofs.Ytbokcmkbnkncoaa
open Go.RowKit

/-- Lists of changes lie at an address (if there are any). -/
def PsAt (w : World) (a : Option Addr) (pss : List (List Chg)) : Prop :=
  ∀ i (h : i < pss.length), ∃ b off ai ci, a = some ⟨b, off, none⟩ ∧ b < w.heap.size ∧ w.cell? ⟨b, off + i, none⟩ = some (.slice ai pss[i].length ci) ∧ ChgsAt w ai pss[i]

theorem PsAt.kept0 {w w' : World} {a : Option Addr} {pss : List (List Chg)} (h : PsAt w a pss) (hf : Fr0 w w') : PsAt w' a pss := by
  intro i hi
  obtain ⟨b, off, ai, ci, h1, h2, h3, h4⟩ := h i hi
  exact ⟨b, off, ai, ci, h1, by have := hf.size'; omega, (hf.cell b _ h2).trans h3, h4.kept0 hf⟩

def unknownB (L : List Ent) (cs : List Chg) : Bool := cs.any fun c => !(decide (0 ≤ c.text) && decide (c.text ≤ L.length))
def unevenB (L : List Ent) (cs : List Chg) : Bool := cs.any fun c => !(entAt L c.text).even

/-- The error of a patch of a text of a length (0: none). -/
def patchErr (L : List Ent) (length : Int) (cs : List Chg) : Int := if unknownB L cs then 1 else if !formedFrom length (-1) cs then 4 else if unevenB L cs then 4 else 0

theorem known_of {L : List Ent} {cs : List Chg} (h : unknownB L cs = false) : ∀ c ∈ cs, isKnown L c.text := by
  intro c hc
  have := List.any_eq_false.1 h c hc
  simp at this
  exact this
theorem unknown_of {L : List Ent} {cs : List Chg} (h : unknownB L cs = true) : ∃ c ∈ cs, ¬ isKnown L c.text := by
  obtain ⟨c, hc, hx⟩ := List.any_eq_true.1 h
  refine ⟨c, hc, ?_⟩
  rintro ⟨h1, h2⟩
  simp [h1, h2] at hx
theorem even_of {L : List Ent} {cs : List Chg} (h : unevenB L cs = false) : ∀ c ∈ cs, (entAt L c.text).even = true := by
  intro c hc
  have := List.any_eq_false.1 h c hc
  simpa using this
theorem uneven_of {L : List Ent} {cs : List Chg} (h : unevenB L cs = true) : ∃ c ∈ cs, (entAt L c.text).even = false := by
  obtain ⟨c, hc, hx⟩ := List.any_eq_true.1 h
  exact ⟨c, hc, by simpa using hx⟩

theorem pat_Length_bad {w : World} {p mb : Nat} {most : Int} {sv : Value} {L : List Ent} (hS : St w p mb most sv L) (length : Int) (h0 : 0 ≤ length) (h1 : length ≤ 1152921504606846976) (a : Option Addr) (cap : Nat) (cs : List Chg) (hc : ChgsAt w a cs) (hl : cs.length ≤ 1000000) (hne : patchErr L length cs ≠ 0) :
    Calls Try.prog 30 #[.pointer (some ⟨p, 0, none⟩), .int .i64 length, .slice a cs.length cap] w fun e w' => e = .returned (.tuple #[.int .i64 0, .iface 66 (.int .i64 (patchErr L length cs))]) ∧ Fr0 w w' := by
  refine pat_Length_err length _ _ ?_
  unfold patchErr at hne ⊢
  cases hu : unknownB L cs with
  | true => rw [if_pos rfl]; exact pat_Check_unknown hS length h0 h1 a cap cs hc hl (unknown_of hu)
  | false =>
    rw [hu] at hne
    rw [if_neg (by simp)] at hne ⊢
    have hk := known_of hu
    cases hf : formedFrom length (-1) cs with
    | false => rw [if_pos (by rfl)]; exact pat_Check_form hS length h0 h1 a cap cs hc hl hk hf
    | true =>
      rw [hf] at hne
      rw [if_neg (by simp)] at hne ⊢
      cases he : unevenB L cs with
      | false => rw [he] at hne; simp at hne
      | true => rw [if_pos rfl]; exact pat_Check_formed hS length h0 h1 a cap cs hc hl hk hf _ (fun W hW => pat_balanced_form (hS.kept0 hW) a cap cs (hc.kept0 hW) hl hk (uneven_of he))

theorem patchErr_zero {L : List Ent} {length : Int} {cs : List Chg} (h : patchErr L length cs = 0) : (∀ c ∈ cs, isKnown L c.text ∧ (entAt L c.text).even = true) ∧ formedFrom length (-1) cs = true := by
  unfold patchErr at h
  cases hu : unknownB L cs with
  | true => rw [hu, if_pos rfl] at h; cases h
  | false =>
    rw [hu, if_neg (by simp)] at h
    cases hf : formedFrom length (-1) cs with
    | false => rw [hf] at h; simp at h
    | true =>
      rw [hf, if_neg (by simp)] at h
      cases he : unevenB L cs with
      | true => rw [he] at h; simp at h
      | false => exact ⟨fun c hc => ⟨known_of hu c hc, even_of he c hc⟩, rfl⟩

/-- What comes of patches: the first error (0: none) and the letters. -/
def ofR (L : List Ent) : Int → List Lt → List (List Chg) → Int × List Lt
  | _, T, [] => (0, T)
  | i, T, cs :: r => if patchErr L T.length cs ≠ 0 then (patchErr L T.length cs, T) else ofR L (i + 1) (applyC (lnL L) (i + 1) T 0 [] cs) r

/-- No version becomes too long. -/
def ofB (L : List Ent) : Int → List Lt → List (List Chg) → Prop
  | _, T, [] => (T.length : Int) ≤ 1152921504606846976
  | i, T, cs :: r => (T.length : Int) ≤ 1152921504606846976 ∧ (patchErr L T.length cs = 0 → ofB L (i + 1) (applyC (lnL L) (i + 1) T 0 [] cs) r)

/-- A bound of the rows. -/
def wsum : List (List Chg) → Nat
  | [] => 0
  | cs :: r => 2 * cs.length + 1 + wsum r

theorem ofB_len {L : List Ent} {i : Int} {T : List Lt} {pss : List (List Chg)} (h : ofB L i T pss) : (T.length : Int) ≤ 1152921504606846976 := by
  cases pss with
  | nil => exact h
  | cons cs r => exact h.1

theorem applyC_sum (ln : Int → Int) (ver : Int) (T : List Lt) (hln : ∀ x, 0 ≤ ln x ∨ True) : ∀ (cs : List Chg) (a : Int) (out : List Lt) (last : Int), 0 ≤ a → a ≤ T.length → (a = last ∨ (a = 0 ∧ last = -1)) → formedFrom T.length last cs = true → (∀ c ∈ cs, 0 ≤ ln c.text) → ((applyC ln ver T a out cs).length : Int) = out.length + (T.length - a) - sumN cs + sumT ln cs
  | [], a, out, last, h0, h1, hl, hf, hn => by
    unfold applyC
    simp only [List.length_append, List.length_drop, sumN, sumT]
    omega
  | c :: r, a, out, last, h0, h1, hl, hf, hn => by
    unfold formedFrom at hf
    rw [Bool.and_eq_true] at hf
    obtain ⟨t1, t2, t3, t4, t5⟩ := fitB_true hf.1
    unfold applyC
    have ih := applyC_sum ln ver T hln r (c.at_ + c.n) (out ++ sl T a c.at_ ++ run (ln c.text).toNat ver ((out ++ sl T a c.at_).length : Int)) (c.at_ + c.n) (by omega) t3 (.inl rfl) hf.2 (fun c hc => hn c (by simp [hc]))
    have hs := sl_len_eq T (a := a) (b := c.at_) h0 (by omega) (by omega)
    have := hn c (by simp)
    rw [ih]
    simp only [List.length_append, run_len, sumN, sumT]
    omega

theorem applyC_len_eq {ln : Int → Int} {ver : Int} {T : List Lt} {cs : List Chg} (hf : formedFrom T.length (-1) cs = true) (hn : ∀ c ∈ cs, 0 ≤ ln c.text) : ((applyC ln ver T 0 [] cs).length : Int) = T.length - sumN cs + sumT ln cs := by
  have := applyC_sum ln ver T (fun _ => .inr trivial) cs 0 [] (-1) (by omega) (by omega) (.inr ⟨rfl, rfl⟩) hf hn
  simpa using this

theorem applyC_lok {ln : Int → Int} {ver : Int} {T : List Lt} (hT : LOk T) : ∀ (cs : List Chg) (a : Int) (out : List Lt), LOk out → (∀ c ∈ cs, 0 ≤ ln c.text) → ((applyC ln ver T a out cs).length : Int) ≤ 1152921504606846976 → LOk (applyC ln ver T a out cs)
  | [], a, out, h, hn, hl => by
    unfold applyC
    exact h.append (fun l hl => hT l (List.mem_of_mem_drop hl))
  | c :: r, a, out, h, hn, hl => by
    unfold applyC at hl ⊢
    have := hn c (by simp)
    have hg := applyC_len ln ver T r (c.at_ + c.n) (out ++ sl T a c.at_ ++ run (ln c.text).toNat ver ((out ++ sl T a c.at_).length : Int))
    rw [List.length_append, run_len] at hg
    refine applyC_lok hT r _ _ ((h.append (hT.sl _ _)).append (LOk.run (by omega) (by unfold BB; omega))) (fun c hc => hn c (by simp [hc])) hl

def OfPost (w : World) (R : Int × List Lt) (e : Ending) (w' : World) : Prop :=
  Fr0 w w' ∧ ((R.1 ≠ 0 ∧ e = .returned (.tuple #[.slice none 0 0, .iface 66 (.int .i64 R.1)])) ∨
   (R.1 = 0 ∧ ∃ rv, e = .returned (.tuple #[rv, .nilIface]) ∧ w'.ownsRow 0 51 4 rv (rowsOf R.2).length (rowCells (rowsOf R.2)) ∧ (rowsOf R.2).length ≤ 900001 ∧ (∀ k, rv.ownBlock = some k → w.heap.size ≤ k)))

/-- What holds at each round's head. -/
structure ORel (w wr : World) (q : Nat) (L : List Ent) (T : List Lt) (R : Int × List Lt) (pss : List (List Chg)) (k : Nat) : Prop where
  frame : Fr0 w wr
  bd : ∃ rv, Bd wr q rv (rowsOf T) T.length ∧ ∀ k, rv.ownBlock = some k → w.heap.size ≤ k
  lok : LOk T
  fin : ofR L k T (pss.drop k) = R
  bnd : ofB L k T (pss.drop k)
  cnt : (rowsOf T).length + wsum (pss.drop k) ≤ 900000

theorem rows0_run (n : Nat) : rows0 n = rowsOf (run n 0 0) := by
  have := rowsOf_run [] n 0 0
  rw [List.nil_append] at this
  rw [this]; rfl

theorem wsum_drop {pss : List (List Chg)} {k : Nat} (h : k < pss.length) : wsum (pss.drop k) = 2 * pss[k].length + 1 + wsum (pss.drop (k + 1)) := by
  rw [List.drop_eq_getElem_cons h]; rfl

set_option maxRecDepth 100000 in
set_option maxHeartbeats 2000000 in
theorem bl_Of {w : World} {p mb : Nat} {most : Int} {sv : Value} {L : List Ent} (hS : St w p mb most sv L) (hO : SOk L) (length : Int) (n0 : Nat) (hn0 : length = n0) (h1 : length ≤ 1152921504606846976) (a : Option Addr) (cap : Nat) (pss : List (List Chg)) (hp : PsAt w a pss) (hb : ofB L 0 (run n0 0 0) pss) (hw : wsum pss ≤ 899999) (hpl : pss.length ≤ 1000000) :
    Calls Try.prog 15 #[.pointer (some ⟨p, 0, none⟩), .int .i64 length, .slice a pss.length cap] w (OfPost w (ofR L 0 (run n0 0 0) pss)) := by
  subst hn0
  obtain ⟨R, hR⟩ : ∃ R, ofR L 0 (run n0 0 0) pss = R := ⟨_, rfl⟩
  rw [hR]
  have C := Lib.hid (fun w => len_Valid_yes (n0 : Int) w (by omega) h1)
  have hB0 : Bd (w.alloc (.cells #[.slice none 0 0, .int .i64 0] 96 (0, 0))) w.heap.size (.slice none 0 0) [] 0 := ⟨alloc_at _ _ _ rfl, World.ownsRow_nil _ _ _ _⟩
  have CA := Lib.hid (bl_add hB0 n0 0 0 (by omega) (by omega) (by omega) (by simp) (fun r hr => by simp at hr))
  have HR := Lib.hid hR
  have HB := Lib.hid hb
  have HS := Lib.hid hS
  have HO := Lib.hid hO
  have HPS := Lib.hid hp
  clear hB0 hR hb hS hO hp
  go_enter Try.func15, Try.ntmps15
  go_wp2_with fail
  refine (C.out _).mono ?_
  rintro e w' ⟨rfl, rfl⟩
  go_wp2_with fail
  refine CA.out.mono ?_
  rintro e w1 ⟨rfl, hst⟩
  obtain ⟨rv, hB, hf, hv⟩ := hst
  have H0 : Hid (ORel w w1 w.heap.size L (run n0 0 0) R pss 0) := by
    refine ⟨?_, ⟨rv, ?_, ?_⟩, LOk.run (by omega) (by unfold BB; omega), HR.out, HB.out, ?_⟩
    · refine Fr.trans (Fr.alloc (Fr.refl _ w) _) hf ?_
      rintro i (hi | hi) hlt
      · omega
      · simp [Value.ownBlock] at hi
    · have e1 : addRow [] 0 (n0 : Int) 0 0 = rowsOf (run n0 0 0) := rows0_run n0
      rw [e1] at hB
      rw [run_len]
      simpa using hB
    · intro k hk
      rcases hv k hk with h | h
      · simp [Value.ownBlock] at h
      · simp at h; omega
    · have := addRow_len [] 0 (n0 : Int) 0 0
      rw [show addRow [] 0 (n0 : Int) 0 0 = rowsOf (run n0 0 0) from rows0_run n0] at this
      simp at this
      rw [List.drop_zero]
      omega
  clear hB hf hv CA
  go_wp2_with fail
  obtain ⟨q, hq⟩ : ∃ q, w.heap.size = q := ⟨_, rfl⟩
  rw [hq] at H0 ⊢
  clear hq
  go_loopw [1, 8, 27] (fun l b i wr => ∃ (k : Nat) (q : Nat) (T : List Lt), k ≤ pss.length ∧ i = .int .i64 k ∧ b = .pointer (some ⟨q, 0, none⟩) ∧ l = .int .i64 (T.length : Int) ∧ ORel w wr q L T R pss k) (fun _ _ i _ => pss.length - (intOf i).toNat)
  case atStart => exact ⟨0, q, run n0 0 0, Nat.zero_le _, rfl, rfl, by rw [run_len], H0.out⟩
  case round =>
    clear H0
    obtain ⟨k, q, T, hk, rfl, rfl, rfl, hP⟩ := hrel
    obtain ⟨rv, hB, hv⟩ := hP.bd
    have hlT := ofB_len hP.bnd
    have HP := Lib.hid hP
    by_cases hlt : k < pss.length
    · obtain ⟨b, off, ai, ci, hab, lb, d0, hcs⟩ := (HPS.out.kept0 hP.frame) k hlt
      have hws := wsum_drop hlt
      have hcnt := hP.cnt
      rw [hws] at hcnt
      have hfin := hP.fin
      have hbnd := hP.bnd
      rw [List.drop_eq_getElem_cons hlt] at hfin hbnd
      have hfr := hP.frame
      subst hab
      clear hP hws
      generalize pss[k] = cs at *
      by_cases he : patchErr L T.length cs = 0
      · obtain ⟨hkn, hfm⟩ := patchErr_zero he
        have hb2 := hbnd.2 he
        have hlF := ofB_len hb2
        unfold ofR at hfin
        rw [if_neg (by simp [he])] at hfin
        have hln : ∀ c ∈ cs, 0 ≤ lnL L c.text := fun c hc => (HO.out.at _ (hkn c hc).1).1.len0
        have hle := applyC_len_eq (ver := (k : Int) + 1) hfm hln
        have CL := Lib.hid (fun W (hf : Fr0 wr W) => pat_Length_ok (HS.out.kept0 (hfr.trans hf)) HO.out T.length (by omega) hlT ai ci cs (hcs.kept0 hf) (by omega) hkn hfm (by omega))
        rw [← hle] at CL
        have CP := Lib.hid (fun W (hf : Fr0 wr W) => bl_patched (HS.out.kept0 (hfr.trans hf)) HO.out (hB.kept0 hf) HP.out.lok hlT ai ci cs (hcs.kept0 hf) (by omega) (fun c hc => (hkn c hc).1) hfm ((k : Int) + 1) rfl hlF (by omega))
        have HLK := Lib.hid (applyC_lok (ln := lnL L) (ver := (k : Int) + 1) HP.out.lok cs 0 [] (fun l hl => by simp at hl) hln hlF)
        have HFIN := Lib.hid hfin
        have HB2 := Lib.hid hb2
        clear he hkn hfm hfin hb2 hbnd hln hle hB hv HP hcs
        generalize applyC (lnL L) ((k : Int) + 1) T 0 [] cs = F at *
        go_wp2_with fail
        refine (CL.out _ (Fr0.refl wr)).mono ?_
        rintro e w2 ⟨rfl, hf2⟩
        go_wp2_with fail
        refine (CP.out _ hf2).mono ?_
        rintro e w3 ⟨q3, rfl, hN3, hc3⟩
        obtain ⟨rv3, hB3, hv3⟩ := hN3.bd
        have HB3 := Lib.hid hB3
        have HV3 := Lib.hid hv3
        have HN3 := Lib.hid hN3
        clear hB3 hv3 hN3
        go_wp2_with fail
        go_roundw
        case rel => exact ⟨k + 1, q3, F, by omega, by go_num, rfl, rfl, ⟨(hfr.trans hf2).trans HN3.out.frame, ⟨rv3, HB3.out, fun j hj => by have := HV3.out j hj; have := (hfr.trans hf2).size'; omega⟩, HLK.out, HFIN.out, HB2.out, by omega⟩⟩
        case measure => simp [intOf]; omega
      · have CL := Lib.hid (pat_Length_bad (HS.out.kept0 hfr) T.length (by omega) hlT ai ci cs hcs (by omega) he)
        unfold ofR at hfin
        rw [if_pos he] at hfin
        have X : Hid (∀ w', Fr0 wr w' → OfPost w R (.returned (.tuple #[.slice none 0 0, .iface 66 (.int .i64 (patchErr L T.length cs))])) w') := by
          intro w' hf
          refine ⟨hfr.trans hf, .inl ?_⟩
          rw [← hfin]
          exact ⟨he, rfl⟩
        clear he hfin hbnd hB hv HP hcs
        generalize patchErr L T.length cs = er at *
        go_wp2_with fail
        refine CL.out.mono ?_
        rintro e w2 ⟨rfl, hf2⟩
        go_wp2_with fail
        go_ret2
        exact X.out _ hf2
    · have hdr : pss.drop k = [] := List.drop_of_length_le (by omega)
      have hfin := hP.fin
      rw [hdr] at hfin
      have hcnt := hP.cnt
      obtain ⟨c0, c1, f, l⟩ := cells2 hB.ptr
      have X : Hid (OfPost w R (.returned (.tuple #[rv, .nilIface])) wr) := by
        refine ⟨hP.frame, .inr ?_⟩
        rw [← hfin]
        exact ⟨rfl, rv, rfl, hB.own, by show (rowsOf T).length ≤ _; omega, hv⟩
      clear hdr hfin hB hv hP HP hcnt
      go_wp2_with fail
      go_ret2
      exact X.out

end Go.Proofs.Ytbokcmkbnkncoaa

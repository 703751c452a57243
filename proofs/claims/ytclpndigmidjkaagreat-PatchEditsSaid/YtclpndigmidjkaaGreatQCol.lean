/- The walks of patch.concat and patch.collect. -/
import Derived.Test.YtclpndigmidjkaaGreatQRd2
import Derived.Test.YtclpndigmidjkaaGreatQBtw0
set_option linter.unusedSimpArgs false
set_option linter.unusedVariables false
namespace Go.Proofs.YtclpndigmidjkaaGreat
open Go.RowKit

/-- The changes of pieces, the last of which is the text's end. -/
def btwQ (tx_ : Int → List Int) : Int → List Int → List Pm → List PC
  | _, _, [] => []
  | next, tx, x :: r => if x.text ≠ 0 then btwQ tx_ next (tx ++ cutL (tx_ x.text) x.from_ x.n) r else chgIf next x.from_ tx ++ btwQ tx_ (x.from_ + x.n) [] r

theorem btwQ_end (tx_ : Int → List Int) (len : Int) : ∀ (xs : List Pm) (next : Int) (tx : List Int), btwQ tx_ next tx (xs ++ [⟨0, len, 0⟩]) = btwP len tx_ next tx xs
  | [], next, tx => by simp [btwQ, btwP]
  | x :: r, next, tx => by
    simp only [List.cons_append, btwQ, btwP, btwQ_end tx_ len r]

theorem btwQ_step (tx_ : Int → List Int) (zs : List Pm) (k : Nat) (h : k < zs.length) (next : Int) (tx : List Int) :
    btwQ tx_ next tx (zs.drop k) = if zs[k].text ≠ 0 then btwQ tx_ next (tx ++ cutL (tx_ zs[k].text) zs[k].from_ zs[k].n) (zs.drop (k + 1)) else chgIf next zs[k].from_ tx ++ btwQ tx_ (zs[k].from_ + zs[k].n) [] (zs.drop (k + 1)) := by
  rw [List.drop_eq_getElem_cons h, btwQ]

set_option maxRecDepth 100000 in
set_option maxHeartbeats 1000000 in
theorem pat_concat {B : Nat} {w : World} {p mb : Nat} {most : Int} {L : List Ent} {ids : List Int} {ts : List (List Int)} {a : Option Addr} {cap : Nat} (D : Nat) (hR : Room B w p mb most L (ids.length * (3 * D + 1))) (hI : IntsAt w a ids) (hA : AllB L ids ts)
    (hl : ids.length ≤ 1000000) (ht : (ts.flatten.length : Int) ≤ 1152921504606846976) (hD : ts.flatten.length < lst (D + 1)) :
    Calls Tryz.prog 102 #[.pointer (some ⟨p, 0, none⟩), .slice a ids.length cap] w (ZPost B w p mb most L ts.flatten (fun d k => k ≤ ids.length * (3 * D + 1))) := by
  have CC := Lib.hid (bal_Concat (cap := cap) D hR hI hA hl ht hD)
  have HR := Lib.hid hR
  have hal := hA.len
  by_cases h0 : ids.length = 0
  · obtain rfl : ids = [] := List.eq_nil_of_length_eq_zero h0
    obtain rfl : ts = [] := List.eq_nil_of_length_eq_zero hal.symm
    clear hR hI hA ht hD CC hal h0 hl
    go_enter Tryz.func102, Tryz.ntmps102
    go_wp2_with fail
    go_ret2
    exact ZPost.same HR.out (Fr0.refl w) (BalZ.zero L) (by simp)
  · by_cases h1 : ids.length = 1
    · obtain ⟨x, rfl⟩ : ∃ x, ids = [x] := List.length_eq_one_iff.1 h1
      obtain ⟨t, rfl⟩ : ∃ t, ts = [t] := List.length_eq_one_iff.1 hal.symm
      obtain ⟨d, hb⟩ := hA.1
      obtain ⟨b, off, rfl, lb, hc⟩ := hI.cell 0 (by simp)
      simp only [List.getElem_cons_zero, Nat.add_zero] at hc
      have HB := Lib.hid hb
      clear hR hI hA ht hD CC hal h0 hl h1 hb
      go_enter Tryz.func102, Tryz.ntmps102
      go_wp2_with fail
      go_ret2
      exact ZPost.same HR.out (by first | exact Fr0.refl w | exact (Fr0.refl w).drewN _) (by simpa using HB.out) (by simp)
    · have q0 : ((ids.length : Int) == 0) = false := beq_eq_false_iff_ne.2 (by omega)
      have q1 : ((ids.length : Int) == 1) = false := beq_eq_false_iff_ne.2 (by omega)
      clear hR hI hA ht hD hal h0 h1
      go_enter Tryz.func102, Tryz.ntmps102
      go_wp2_with fail
      refine CC.out.mono ?_
      rintro e w2 hx
      obtain ⟨z, rfl⟩ := hx.ret
      have HX := Lib.hid (hx.mono (E := fun d' k => k ≤ ids.length * (3 * D + 1)) rfl (fun e k h => h.2))
      clear hx CC
      go_wp2_with fail
      go_ret2
      exact HX.out

/-- What collect leaves. -/
def ClPost (B : Nat) (w : World) (p mb : Nat) (most : Int) (L : List Ent) (qs : List PC) (N : Nat) (e : Ending) (w' : World) : Prop :=
  ∃ L' v cs k, e = .returned (.tuple #[v, .nilIface]) ∧ Sto B w' p mb most L' ∧ Kp B mb w w' ∧ Grows L L' k ∧ k ≤ N ∧ w'.ownsRow w.heap.size 41 3 v cs.length (cs.flatMap Chg.vals) ∧ PChg L' cs qs

/-- The state of collect's loop. -/
structure ClR (B : Nat) (w0 wr : World) (p mb : Nat) (most : Int) (L : List Ent) (D : Nat) (RES : List PC) (zs : List Pm) (lv : Value) (k : Nat) (cv tv : Value) (at_ : Int) (L' : List Ent) (cs : List Chg) (ids : List Int) (ts : List (List Int)) (done : List PC) : Prop where
  st : Sto B wr p mb most L'
  kp : Kp B mb w0 wr
  gr : ∃ n, Grows L L' n ∧ n + ids.length * (3 * D + 1) ≤ k * (14 * D + 2)
  cv : wr.ownsRow w0.heap.size 41 3 cv cs.length (cs.flatMap Chg.vals)
  tv : wr.ownsRow w0.heap.size 39 1 tv ids.length (ids.map fun x => Value.int .i64 x)
  pl : wr.ownsRow w0.heap.size 142 3 lv zs.length (zs.flatMap Pm.vals)
  ch : PChg L' cs done
  tx : AllB L' ids ts
  ne : ∀ t ∈ ts, t ≠ []
  res : done ++ btwQ (txt L) at_ ts.flatten (zs.drop k) = RES
  il : ids.length ≤ k
  cl : cs.length ≤ k
  a0 : 0 ≤ at_
  a1 : at_ ≤ 1152921504606846976

theorem Room.next' {B : Nat} {w w' : World} {p mb : Nat} {most : Int} {L L' : List Ent} {n m k : Nat} (h : Room B w p mb most L n) (hS : Sto B w' p mb most L') (hb : B ≤ w'.heap.size) (hg : Grows L L' m) (hk : m + k ≤ n) : Room B w' p mb most L' k :=
  ⟨hS, hb, hg.sok, hg.dok, by have := h.most; have := hg.len; omega, by have := h.big; have := hg.len; omega⟩

theorem owns_read {α : Type} {vals : α → List Value} {size B base : Nat} {T : TypeId} {w : World} {a : Option Addr} {n cap : Nat} {xs : List α} (hv : ∀ x ∈ xs, (vals x).length = size) (h : w.ownsRow base T size (.slice a n cap) xs.length (xs.flatMap vals)) (h1 : T ≠ 121) (h2 : T ≠ 183) : RG vals size B w a xs := by
  obtain ⟨a', cap', e, hr⟩ := rg_of_own (B := B) hv h h1 h2
  simp only [Value.slice.injEq] at e
  obtain ⟨rfl, _, _⟩ := e
  exact hr

theorem flat_nil_iff {ts : List (List Int)} (h : ∀ t ∈ ts, t ≠ []) : ts.flatten ≠ [] ↔ 0 < ts.length := by
  cases ts with
  | nil => simp
  | cons t r =>
    have := h t (by simp)
    simp [this]

/-- Kept letters where nothing is to be done. -/
theorem ClR.keep {B : Nat} {w0 wr w' : World} {p mb : Nat} {most : Int} {L : List Ent} {D : Nat} {RES : List PC} {zs : List Pm} {lv : Value} {k : Nat} {cv tv : Value} {at_ : Int} {L' : List Ent} {cs : List Chg} {ids : List Int} {ts : List (List Int)} {done : List PC} (h : ClR B w0 wr p mb most L D RES zs lv k cv tv at_ L' cs ids ts done) (hf : Fr0 wr w') (hk : k < zs.length) (h0 : zs[k].text = 0) (hn : ¬ (at_ < zs[k].from_ ∨ 0 < ids.length)) (h1 : 0 ≤ zs[k].from_ + zs[k].n) (h2 : zs[k].from_ + zs[k].n ≤ 1152921504606846976) :
    ClR B w0 w' p mb most L D RES zs lv (k + 1) cv (.slice none 0 0) (zs[k].from_ + zs[k].n) L' cs [] [] done := by
  obtain ⟨n, hg, hn2⟩ := h.gr
  have hal := h.tx.len
  have hr := h.res
  rw [btwQ_step _ _ _ hk, if_neg (by simpa using h0), chgIf_no (by
    intro hh
    rcases hh with hh | hh
    · exact hn (.inl hh)
    · exact hn (.inr (by rw [hal]; exact (flat_nil_iff h.ne).1 hh)))] at hr
  exact ⟨h.st.kept0 hf, h.kp.trans (Kp.of0 hf), ⟨n, hg, by rw [Nat.add_mul]; simp; omega⟩, hf.owns h.cv, World.ownsRow_nil _ _ _ _, hf.owns h.pl, h.ch, trivial, by simp, by simpa using hr, by simp, by have := h.cl; omega, h1, h2⟩

/-- A piece of a text. -/
theorem ClR.text {B : Nat} {w0 wr w1 w2 w' : World} {p mb : Nat} {most : Int} {L : List Ent} {D : Nat} {RES : List PC} {zs : List Pm} {lv : Value} {k : Nat} {cv tv tv' : Value} {at_ : Int} {L' L2 : List Ent} {cs : List Chg} {ids : List Int} {ts : List (List Int)} {done : List PC} {z : Int} {d : Int} {kz : Nat} {o : Obj} (h : ClR B w0 wr p mb most L D RES zs lv k cv tv at_ L' cs ids ts done) (hf : Fr0 wr w1) (hk : k < zs.length) (h0 : zs[k].text ≠ 0)
    (hS : Sto B w2 p mb most L2) (hK : Kp B mb w1 w2) (g : Grows L' L2 kz) (hkz : kz ≤ 11 * D + 1) (hb : BalZ L2 z (cutL (txt L zs[k].text) zs[k].from_ zs[k].n) d) (hne : cutL (txt L zs[k].text) zs[k].from_ zs[k].n ≠ [])
    (h1 : w'.ownsRow w0.heap.size 39 1 tv' (ids ++ [z]).length ((ids ++ [z]).map fun x => Value.int .i64 x)) (hg : (w2.alloc o).grownBy w' tv.ownBlock) :
    ClR B w0 w' p mb most L D RES zs lv (k + 1) cv tv' at_ L2 cs (ids ++ [z]) (ts ++ [cutL (txt L zs[k].text) zs[k].from_ zs[k].n]) done := by
  obtain ⟨n, hgr, hn2⟩ := h.gr
  have hr := h.res
  rw [btwQ_step _ _ _ hk, if_pos h0] at hr
  have hK2 : Kp B mb w0 w2 := (h.kp.trans (Kp.of0 hf)).trans hK
  have htv := hK.owns (hf.owns h.tv) (by decide) (by decide)
  have hcv := hK.owns (hf.owns h.cv) (by decide) (by decide)
  have hpl := hK.owns (hf.owns h.pl) (by decide) (by decide)
  have hF : Fr (fun j => tv.ownBlock = some j) w2 w' := Fr.grown ((Fr.refl _ w2).alloc o) hg (fun j hj _ => hj)
  refine ⟨hS.push htv (by decide) (by decide) hg, (hK2.alloc _).grown hg (fun j hj => (htv.lt j hj).1), ⟨n + (11 * D + 1), hgr.trans g (by omega), ?_⟩, hF.owns hcv ?_, h1, hF.owns hpl ?_, h.ch.more g hgr.dok, (h.tx.more g hgr.dok).snoc hb, ?_, ?_, by rw [List.length_append]; have := h.il; simp; omega, by have := h.cl; omega, h.a0, h.a1⟩
  · have e1 : (k + 1) * (14 * D + 2) = k * (14 * D + 2) + (14 * D + 2) := by rw [Nat.add_mul, Nat.one_mul]
    have e2 : (ids ++ [z]).length * (3 * D + 1) = ids.length * (3 * D + 1) + (3 * D + 1) := by rw [List.length_append, List.length_singleton, Nat.add_mul, Nat.one_mul]
    rw [e1, e2]
    omega
  · intro j hj e
    obtain ⟨c1, e1⟩ := owns_block hcv hj
    obtain ⟨c2, e2⟩ := owns_block htv e
    exact ne_of_types e1 e2 (by decide) rfl
  · intro j hj e
    obtain ⟨c1, e1⟩ := owns_block hpl hj
    obtain ⟨c2, e2⟩ := owns_block htv e
    exact ne_of_types e1 e2 (by decide) rfl
  · intro t ht
    rcases List.mem_append.1 ht with ht | ht
    · exact h.ne t ht
    · simp only [List.mem_singleton] at ht
      subst ht
      exact hne
  · rw [List.flatten_append]
    simpa using hr

/-- A change. -/
theorem ClR.change {B : Nat} {w0 wr w1 w2 w' : World} {p mb : Nat} {most : Int} {L : List Ent} {D : Nat} {RES : List PC} {zs : List Pm} {lv : Value} {k : Nat} {cv cv' tv : Value} {at_ : Int} {L' L2 : List Ent} {cs : List Chg} {ids : List Int} {ts : List (List Int)} {done : List PC} {z : Int} {d : Int} {kz : Nat} {o : Obj} (h : ClR B w0 wr p mb most L D RES zs lv k cv tv at_ L' cs ids ts done) (hf : Fr0 wr w1) (hk : k < zs.length) (h0 : zs[k].text = 0) (hn : at_ < zs[k].from_ ∨ 0 < ids.length)
    (hS : Sto B w2 p mb most L2) (hK : Kp B mb w1 w2) (g : Grows L' L2 kz) (hkz : kz ≤ ids.length * (3 * D + 1)) (hb : BalZ L2 z ts.flatten d) (h3 : 0 ≤ zs[k].from_ + zs[k].n) (h4 : zs[k].from_ + zs[k].n ≤ 1152921504606846976)
    (h1 : w'.ownsRow w0.heap.size 41 3 cv' (cs ++ [(⟨at_, zs[k].from_ - at_, z⟩ : Chg)]).length ((cs ++ [(⟨at_, zs[k].from_ - at_, z⟩ : Chg)]).flatMap Chg.vals)) (hg : (w2.alloc o).grownBy w' cv.ownBlock) :
    ClR B w0 w' p mb most L D RES zs lv (k + 1) cv' (.slice none 0 0) (zs[k].from_ + zs[k].n) L2 (cs ++ [⟨at_, zs[k].from_ - at_, z⟩]) [] [] (done ++ [⟨at_, zs[k].from_ - at_, ts.flatten⟩]) := by
  obtain ⟨n, hgr, hn2⟩ := h.gr
  have hal := h.tx.len
  have hr := h.res
  rw [btwQ_step _ _ _ hk, if_neg (by simpa using h0), chgIf_yes (by
    rcases hn with hn | hn
    · exact .inl hn
    · exact .inr ((flat_nil_iff h.ne).2 (by omega)))] at hr
  have hK2 : Kp B mb w0 w2 := (h.kp.trans (Kp.of0 hf)).trans hK
  have hcv := hK.owns (hf.owns h.cv) (by decide) (by decide)
  have hpl := hK.owns (hf.owns h.pl) (by decide) (by decide)
  have hF : Fr (fun j => cv.ownBlock = some j) w2 w' := Fr.grown ((Fr.refl _ w2).alloc o) hg (fun j hj _ => hj)
  refine ⟨hS.push hcv (by decide) (by decide) hg, (hK2.alloc _).grown hg (fun j hj => (hcv.lt j hj).1), ⟨n + ids.length * (3 * D + 1), hgr.trans g (by omega), ?_⟩, h1, World.ownsRow_nil _ _ _ _, hF.owns hpl ?_, (h.ch.more g hgr.dok).snoc rfl rfl hb, trivial, by simp, ?_, by simp, by rw [List.length_append]; have := h.cl; simp; omega, h3, h4⟩
  · have e1 : (k + 1) * (14 * D + 2) = k * (14 * D + 2) + (14 * D + 2) := by rw [Nat.add_mul, Nat.one_mul]
    rw [e1]
    simp
    omega
  · intro j hj e
    obtain ⟨c1, e1⟩ := owns_block hpl hj
    obtain ⟨c2, e2⟩ := owns_block hcv e
    exact ne_of_types e1 e2 (by decide) rfl
  · simpa using hr

theorem ClR.kept0 {B : Nat} {w0 wr w' : World} {p mb : Nat} {most : Int} {L : List Ent} {D : Nat} {RES : List PC} {zs : List Pm} {lv : Value} {k : Nat} {cv tv : Value} {at_ : Int} {L' : List Ent} {cs : List Chg} {ids : List Int} {ts : List (List Int)} {done : List PC} (h : ClR B w0 wr p mb most L D RES zs lv k cv tv at_ L' cs ids ts done) (hf : Fr0 wr w') : ClR B w0 w' p mb most L D RES zs lv k cv tv at_ L' cs ids ts done :=
  ⟨h.st.kept0 hf, h.kp.trans (Kp.of0 hf), h.gr, hf.owns h.cv, hf.owns h.tv, hf.owns h.pl, h.ch, h.tx, h.ne, h.res, h.il, h.cl, h.a0, h.a1⟩

set_option maxRecDepth 100000 in
set_option maxHeartbeats 4000000 in
theorem pat_collect {B : Nat} {w0 w : World} {p mb : Nat} {most : Int} {MT : Nat} {L : List Ent} (D : Nat) {xs : List Pm} (hR : Room B w p mb most L ((xs.length + 1) * (14 * D + 2))) (hB : B ≤ w0.heap.size) (hK : Kp B mb w0 w) (lv : Value) (hlv : w.ownsRow w0.heap.size 142 3 lv xs.length (xs.flatMap Pm.vals))
    (hox : ∀ x ∈ xs, POk MT L x ∧ (x.text ≠ 0 → 0 < x.n)) (len : Int) (hl0 : 0 ≤ len) (hl1 : len ≤ 1152921504606846976) (hM : MT < lst (D + 1)) {RES : List PC} (hRes : btwP len (txt L) 0 [] xs = RES) (hI : insP RES < lst (D + 1)) (hI2 : insP RES ≤ 100000000) (hxl : xs.length ≤ 500000) :
    Calls Tryz.prog 67 #[.pointer (some ⟨p, 0, none⟩), .int .i64 len, lv] w (ClPost B w0 p mb most L RES ((xs.length + 1) * (14 * D + 2))) := by
  obtain ⟨la, lcap, rfl⟩ := owns_form hlv
  have hz : ∀ z ∈ xs ++ [(⟨0, len, 0⟩ : Pm)], POk MT L z ∧ (z.text ≠ 0 → 0 < z.n) := by
    intro z hz
    rcases List.mem_append.1 hz with hz | hz
    · exact hox z hz
    · simp only [List.mem_singleton] at hz
      subst hz
      exact ⟨⟨hl0, Int.le_refl _, by show len + 0 ≤ _; omega, fun h => absurd rfl h⟩, fun h => absurd rfl h⟩
  have h0 : ∀ v' w', w'.ownsRow w0.heap.size 142 3 v' (xs ++ [(⟨0, len, 0⟩ : Pm)]).length ((xs ++ [(⟨0, len, 0⟩ : Pm)]).flatMap Pm.vals) → (w.alloc (.cells #[.int .i64 0, .int .i64 len, .int .i64 0] 142 (0, 0))).grownBy w' (Value.slice la xs.length lcap).ownBlock → ClR B w0 w' p mb most L D RES (xs ++ [(⟨0, len, 0⟩ : Pm)]) v' 0 (.slice none 0 0) (.slice none 0 0) 0 L [] [] [] [] := by
    intro v' w' h1 h2
    exact ⟨hR.st.push hlv (by decide) (by decide) h2, (hK.alloc _).grown h2 (fun j hj => (hlv.lt j hj).1), ⟨0, Grows.refl hR.sok hR.dok, by simp⟩, World.ownsRow_nil _ _ _ _, World.ownsRow_nil _ _ _ _, h1, trivial, trivial, by simp, by rw [List.drop_zero, btwQ_end]; exact hRes, by simp, by simp, by omega, by omega⟩
  have H0 := Lib.hid h0
  have HR := Lib.hid hR
  have HZ := Lib.hid hz
  have HM := Lib.hid hM
  have HI := Lib.hid hI
  have HLV := Lib.hid hlv
  have hbs : w0.heap.size ≤ w.heap.size := hK.size
  have HB := Lib.hid hB
  have HZL : Hid ((xs ++ [(⟨0, len, 0⟩ : Pm)]).length = xs.length + 1) := by show _ = _; simp
  clear hR hK hlv hox hM hRes hI hz h0 hB
  go_enter Tryz.func67, Tryz.ntmps67
  have hxl2 : xs.length ≤ 1000000 := by omega
  go_wp2_with (at_builtin; refine wpList_pushG (vals := Pm.vals) rt_piece rfl _ _ rfl w0.heap.size _ xs rfl HLV.out hbs 142 ⟨0, len, 0⟩ #[.int .i64 0, .int .i64 len, .int .i64 0] rfl rfl (by simp [Pm.vals, Value.oneCell']) 1 _ rfl rfl (by omega) hxl2 ?_; intro v1 w1 hO1 hg1 hat1; obtain ⟨za, zcap, rfl⟩ := owns_form hO1; have HC0 := Lib.hid (H0.out _ _ hO1 hg1); clear hO1 hg1 hat1; rw [HZL.out]; have hzl := HZL.out; generalize hzs : xs ++ [(⟨0, len, 0⟩ : Pm)] = zs at *; clear hzs)
  go_loopw [8, 9, 10, 23] (fun cv tv av i wr => ∃ (k : Nat) (at_ : Int) (L' : List Ent) (cs : List Chg) (ids : List Int) (ts : List (List Int)) (done : List PC), k ≤ zs.length ∧ i = .int .i64 k ∧ av = .int .i64 at_ ∧ ClR B w0 wr p mb most L D RES zs (.slice za zs.length zcap) k cv tv at_ L' cs ids ts done) (fun _ _ _ i _ => zs.length - (intOf i).toNat)
  case atStart => exact ⟨0, 0, L, [], [], [], [], Nat.zero_le _, rfl, rfl, HC0.out⟩
  case round =>
    obtain ⟨k, at_, L', cs, ids, ts, done, hk, rfl, rfl, hr⟩ := hrel
    clear HC0 H0
    by_cases hlt : k < zs.length
    · obtain ⟨hp, hp2⟩ := HZ.out _ (List.getElem_mem hlt)
      obtain ⟨b, off, rfl, lbk, _, hc⟩ := owns_read (vals := Pm.vals) (size := 3) (B := 0) (fun _ _ => rfl) hr.pl (by decide) (by decide) k hlt
      have c0 := hc 0 _ rfl
      have c1 := hc 1 _ rfl
      have c2 := hc 2 _ rfl
      rw [Nat.add_zero] at c0
      obtain ⟨n, hgr, hn⟩ := hr.gr
      have f0 := hp.f0
      have n0 := hp.n0
      have fu := hp.up
      have a0 := hr.a0
      have a1 := hr.a1
      have hBw : B ≤ wr.heap.size := Nat.le_trans HB.out hr.kp.size
      have e1 : (k + 1) * (14 * D + 2) ≤ (xs.length + 1) * (14 * D + 2) := Nat.mul_le_mul_right _ (by omega)
      have e2 : (k + 1) * (14 * D + 2) = k * (14 * D + 2) + (14 * D + 2) := by rw [Nat.add_mul, Nat.one_mul]
      by_cases h0 : zs[k].text = 0
      · have q0 : (zs[k].text == 0) = true := beq_iff_eq.2 h0
        by_cases hfa : at_ < zs[k].from_
        · have q2 : decide (at_ < zs[k].from_) = true := decide_eq_true hfa
          have hon : at_ < zs[k].from_ ∨ 0 < ids.length := .inl hfa
          clear hfa
          have hal := hr.tx.len
          have htl : ts.flatten.length < lst (D + 1) ∧ ts.flatten.length ≤ 100000000 := by
            have hres := hr.res
            rw [btwQ_step _ _ _ hlt, if_neg (by simpa using h0), chgIf_yes (by
              rcases hon with hon | hon
              · exact .inl hon
              · exact .inr ((flat_nil_iff hr.ne).2 (by omega)))] at hres
            have hins : ts.flatten.length ≤ insP RES := by
              rw [← hres]
              exact insP_mem _ ⟨at_, zs[k].from_ - at_, ts.flatten⟩ (by simp)
            have := HI.out
            omega
          have e3 : ids.length * (3 * D + 1) ≤ k * (14 * D + 2) := by omega
          have hroom : Room B wr p mb most L' (ids.length * (3 * D + 1)) := HR.out.next' hr.st hBw hgr (by omega)
          obtain ⟨ta, tcap, rfl, hIs⟩ := ints_of_own hr.tv (by decide) (by decide)
          have hil := hr.il
          have hcl := hr.cl
          have CX := Lib.hid (fun W (hW : Fr0 wr W) => pat_concat (cap := tcap) D (hroom.kept0 hW) (hIs.kept0 hW) hr.tx (by omega) (by omega) htl.1)
          have HNX := Lib.hid (fun w1 w2 w' L2 z kz dz cv' o hf hS hK g hkz hb h1 hg => hr.change (w1 := w1) (w2 := w2) (w' := w') (L2 := L2) (z := z) (kz := kz) (d := dz) (cv' := cv') (o := o) hf hlt h0 hon hS hK g hkz hb (by omega) fu h1 hg)
          have HRR := Lib.hid hr
          have hbsr : w0.heap.size ≤ wr.heap.size := hr.kp.size
          have hcl2 : cs.length ≤ 1000000 := by omega
          have s1 : 0 ≤ zs[k].from_ + zs[k].n := by omega
          clear hp hp2 hc hgr hn htl hroom hr e1 e2 e3 hBw h0 hIs hal hon
          generalize hx : zs[k] = x at *
          clear hx
          go_wp2_with fail
          have hf1 := (Fr0.refl wr).alloc (.cells #[.int .i64 x.text, .int .i64 x.from_, .int .i64 x.n] 142 (0, 0))
          refine (CX.out _ hf1).mono ?_
          rintro e w3 ⟨L2, z, dz, kz, rfl, hS2, hK2, g2, bz, hz⟩
          have hr3 := hK2.cells _ _ _ _ (alloc_at wr (.cells #[.int .i64 x.text, .int .i64 x.from_, .int .i64 x.n] 142 (0, 0)) _ rfl) (by decide) (by decide)
          obtain ⟨d0, d1, d2, _, ld⟩ := cells3 hr3
          have hcv := hK2.owns (hf1.owns HRR.out.cv) (by decide) (by decide)
          have hbs3 : w0.heap.size ≤ w3.heap.size := Nat.le_trans ((HRR.out.kp).trans (Kp.of0 hf1)).size hK2.size
          have HN := Lib.hid (fun w' cv' o h1 hg => HNX.out _ _ w' L2 z kz dz cv' o hf1 hS2 hK2 g2 hz bz h1 hg)
          have hnb : u8.ownBlock ≠ some wr.heap.size := fun h => by have := (HRR.out.cv.lt _ h).2; omega
          have HR3 := Lib.hid hr3
          clear hS2 hK2 g2 bz hz hf1 CX HNX hr3
          go_wp2_with (at_builtin; refine wpList_pushG (vals := Chg.vals) rt_chg rfl _ _ rfl w0.heap.size _ cs rfl hcv hbs3 41 ⟨at_, x.from_ - at_, z⟩ #[.int .i64 at_, .int .i64 (x.from_ - at_), .int .i64 z] rfl rfl (by simp [Chg.vals, Value.oneCell']) 1 _ rfl rfl (by omega) hcl2 ?_; intro v' w4 hO4 hg4 hat4; (have hr4 : w4.heap[wr.heap.size]? = _ := (hg4.block _ (by simp; omega) (fun e => hnb e.symm)).trans ((alloc_lt _ _ _ ld).trans HR3.out)); obtain ⟨j0, j1, j2, _, l4⟩ := cells3 hr4; clear hr4)
          have HX := HN.out _ _ _ hO4 hg4
          go_roundw
          case rel => exact ⟨k + 1, x.from_ + x.n, L2, _, [], [], _, by omega, by go_num, rfl, HX⟩
          case measure => simp [intOf]; omega
        · have q2 : decide (at_ < zs[k].from_) = false := decide_eq_false hfa
          by_cases hil0 : 0 < ids.length
          · have q3 : decide (0 < ids.length) = true := decide_eq_true hil0
            have q4 : decide ((0 : Int) < (ids.length : Int)) = true := decide_eq_true (by omega)
            have hon : at_ < zs[k].from_ ∨ 0 < ids.length := .inr hil0
            clear hfa hil0
            have hal := hr.tx.len
            have htl : ts.flatten.length < lst (D + 1) ∧ ts.flatten.length ≤ 100000000 := by
              have hres := hr.res
              rw [btwQ_step _ _ _ hlt, if_neg (by simpa using h0), chgIf_yes (by
                rcases hon with hon | hon
                · exact .inl hon
                · exact .inr ((flat_nil_iff hr.ne).2 (by omega)))] at hres
              have hins : ts.flatten.length ≤ insP RES := by
                rw [← hres]
                exact insP_mem _ ⟨at_, zs[k].from_ - at_, ts.flatten⟩ (by simp)
              have := HI.out
              omega
            have e3 : ids.length * (3 * D + 1) ≤ k * (14 * D + 2) := by omega
            have hroom : Room B wr p mb most L' (ids.length * (3 * D + 1)) := HR.out.next' hr.st hBw hgr (by omega)
            obtain ⟨ta, tcap, rfl, hIs⟩ := ints_of_own hr.tv (by decide) (by decide)
            have hil := hr.il
            have hcl := hr.cl
            have CX := Lib.hid (fun W (hW : Fr0 wr W) => pat_concat (cap := tcap) D (hroom.kept0 hW) (hIs.kept0 hW) hr.tx (by omega) (by omega) htl.1)
            have HNX := Lib.hid (fun w1 w2 w' L2 z kz dz cv' o hf hS hK g hkz hb h1 hg => hr.change (w1 := w1) (w2 := w2) (w' := w') (L2 := L2) (z := z) (kz := kz) (d := dz) (cv' := cv') (o := o) hf hlt h0 hon hS hK g hkz hb (by omega) fu h1 hg)
            have HRR := Lib.hid hr
            have hbsr : w0.heap.size ≤ wr.heap.size := hr.kp.size
            have hcl2 : cs.length ≤ 1000000 := by omega
            have s1 : 0 ≤ zs[k].from_ + zs[k].n := by omega
            clear hp hp2 hc hgr hn htl hroom hr e1 e2 e3 hBw h0 hIs hal hon
            generalize hx : zs[k] = x at *
            clear hx
            go_wp2_with fail
            have hf1 := (Fr0.refl wr).alloc (.cells #[.int .i64 x.text, .int .i64 x.from_, .int .i64 x.n] 142 (0, 0))
            refine (CX.out _ hf1).mono ?_
            rintro e w3 ⟨L2, z, dz, kz, rfl, hS2, hK2, g2, bz, hz⟩
            have hr3 := hK2.cells _ _ _ _ (alloc_at wr (.cells #[.int .i64 x.text, .int .i64 x.from_, .int .i64 x.n] 142 (0, 0)) _ rfl) (by decide) (by decide)
            obtain ⟨d0, d1, d2, _, ld⟩ := cells3 hr3
            have hcv := hK2.owns (hf1.owns HRR.out.cv) (by decide) (by decide)
            have hbs3 : w0.heap.size ≤ w3.heap.size := Nat.le_trans ((HRR.out.kp).trans (Kp.of0 hf1)).size hK2.size
            have HN := Lib.hid (fun w' cv' o h1 hg => HNX.out _ _ w' L2 z kz dz cv' o hf1 hS2 hK2 g2 hz bz h1 hg)
            have hnb : u8.ownBlock ≠ some wr.heap.size := fun h => by have := (HRR.out.cv.lt _ h).2; omega
            have HR3 := Lib.hid hr3
            clear hS2 hK2 g2 bz hz hf1 CX HNX hr3
            go_wp2_with (at_builtin; refine wpList_pushG (vals := Chg.vals) rt_chg rfl _ _ rfl w0.heap.size _ cs rfl hcv hbs3 41 ⟨at_, x.from_ - at_, z⟩ #[.int .i64 at_, .int .i64 (x.from_ - at_), .int .i64 z] rfl rfl (by simp [Chg.vals, Value.oneCell']) 1 _ rfl rfl (by omega) hcl2 ?_; intro v' w4 hO4 hg4 hat4; (have hr4 : w4.heap[wr.heap.size]? = _ := (hg4.block _ (by simp; omega) (fun e => hnb e.symm)).trans ((alloc_lt _ _ _ ld).trans HR3.out)); obtain ⟨j0, j1, j2, _, l4⟩ := cells3 hr4; clear hr4)
            have HX := HN.out _ _ _ hO4 hg4
            go_roundw
            case rel => exact ⟨k + 1, x.from_ + x.n, L2, _, [], [], _, by omega, by go_num, rfl, HX⟩
            case measure => simp [intOf]; omega
          · have q3 : decide (0 < ids.length) = false := decide_eq_false hil0
            have q4 : decide ((0 : Int) < (ids.length : Int)) = false := decide_eq_false (by omega)
            obtain ⟨ta, tcap, rfl⟩ := owns_form hr.tv
            have HNX := Lib.hid (fun w' hf => hr.keep (w' := w') hf hlt h0 (fun h => h.elim hfa hil0) (by omega) fu)
            have hcl := hr.cl
            clear hp hp2 hc hgr hn hr e1 e2 hBw h0 hfa hil0
            generalize hx : zs[k] = x at *
            clear hx
            go_wp2_with fail
            have HX := HNX.out _ ((Fr0.refl wr).alloc (.cells #[.int .i64 x.text, .int .i64 x.from_, .int .i64 x.n] 142 (0, 0)))
            go_roundw
            case rel => exact ⟨k + 1, x.from_ + x.n, L', cs, [], [], done, by omega, by go_num, rfl, HX⟩
            case measure => simp [intOf]; omega
      · obtain ⟨t, d, hb, hft, htM⟩ := hp.text h0
        have hb' := hgr.balz HR.out.dok hb
        obtain ⟨d0, d1⟩ := hb'.deep hgr.dok hgr.sok (D := D) (by have := HM.out; omega)
        have hcl := cut_len f0 n0 hft
        have hpos := hp2 h0
        have hne : cutL (txt L zs[k].text) zs[k].from_ zs[k].n ≠ [] := by
          rw [hb.text]
          intro h
          rw [h] at hcl
          simp at hcl
          omega
        have q1 : (zs[k].text == 0) = false := beq_eq_false_iff_ne.2 h0
        have hroom : Room B wr p mb most L' (11 * d.toNat + 1) := HR.out.next' hr.st hBw hgr (by omega)
        have CX := Lib.hid (fun W (hW : Fr0 wr W) => pat_section (f := zs[k].from_) (n := zs[k].n) (hroom.kept0 hW) hb' f0 n0 hft)
        have HTX := Lib.hid hb.text
        have HKZ : Hid (11 * d.toNat + 1 ≤ 11 * D + 1) := by show _ ≤ _; omega
        have HNX := Lib.hid (fun w1 w2 w' L2 z kz dz tv' o hf hS hK g hkz hb h1 hg => hr.text (w1 := w1) (w2 := w2) (w' := w') (L2 := L2) (z := z) (kz := kz) (d := dz) (tv' := tv') (o := o) hf hlt h0 hS hK g hkz hb hne h1 hg)
        have HRR := Lib.hid hr
        have hil := hr.il
        clear hp hp2 hc hgr hn hb hb' hft htM d0 d1 hcl hne hroom hr e1 e2 hBw h0
        generalize hx : zs[k] = x at *
        clear hx
        go_wp2_with fail
        have hf1 := (Fr0.refl wr).alloc (.cells #[.int .i64 x.text, .int .i64 x.from_, .int .i64 x.n] 142 (0, 0))
        refine (CX.out _ hf1).mono ?_
        rintro e w3 ⟨L2, z, dz, kz, rfl, hS2, hK2, g2, bz, hz⟩
        have htv := hK2.owns (hf1.owns HRR.out.tv) (by decide) (by decide)
        have hbs3 : w0.heap.size ≤ w3.heap.size := Nat.le_trans ((HRR.out.kp).trans (Kp.of0 hf1)).size hK2.size
        have HN := Lib.hid (fun w' tv' o h1 hg => HNX.out _ _ w' L2 z kz dz tv' o hf1 hS2 hK2 g2 (by have := HKZ.out; omega) (by rw [HTX.out]; exact bz) h1 hg)
        have hil2 : ids.length ≤ 1000000 := by omega
        clear hS2 hK2 g2 bz hz hf1 CX HNX
        go_wp2_with (at_builtin; refine wpList_pushR rt_id rfl _ _ rfl w0.heap.size _ ids rfl htv hbs3 39 z 1 _ rfl rfl hil2 ?_; intro v' w4 hO4 hg4 hat4)
        have HX := HN.out _ _ _ hO4 hg4
        go_roundw
        case rel => exact ⟨k + 1, at_, L2, cs, _, _, done, by omega, by go_num, rfl, HX⟩
        case measure => simp [intOf]; omega
    · have hkz : k = zs.length := by omega
      have HX : Hid (ClPost B w0 p mb most L RES ((xs.length + 1) * (14 * D + 2)) (.returned (.tuple #[u8, .nilIface])) wr) := by
        obtain ⟨n, hgr, hn⟩ := hr.gr
        have hres := hr.res
        rw [List.drop_of_length_le (by omega), btwQ, List.append_nil] at hres
        refine ⟨L', u8, cs, n, rfl, hr.st, hr.kp, hgr, ?_, hr.cv, by rw [← hres]; exact hr.ch⟩
        have : k * (14 * D + 2) ≤ (xs.length + 1) * (14 * D + 2) := Nat.mul_le_mul_right _ (by omega)
        omega
      clear hr hkz hk HR HZ HM HI HLV HB HZL
      go_wp2_with fail
      go_ret2
      exact HX.out

end Go.Proofs.YtclpndigmidjkaaGreat

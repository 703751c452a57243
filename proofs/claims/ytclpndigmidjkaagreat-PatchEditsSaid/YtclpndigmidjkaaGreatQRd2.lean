/- The walk of patch.replace. -/
import Derived.Test.YtclpndigmidjkaaGreatQRd1
import Derived.Test.YtclpndigmidjkaaGreatQPaC
set_option linter.unusedSimpArgs false
set_option linter.unusedVariables false
namespace Go.Proofs.YtclpndigmidjkaaGreat
open Go.RowKit

/-- The state of replace's loop. -/
structure RpL (MT : Nat) (L : List Ent) (B lb : Nat) (w wr : World) (rb : Nat) (T : List (Int × Int)) (ps : List PC) (N : Nat) (k : Nat) (v : Value) (ys xs : List Pm) (lv : Value) (u at_ : Int) : Prop where
  m : RdM B w.heap.size lb wr rb lv xs u at_ v ys
  fr : Fr0 w wr
  fin : flatP (txt L) ys ++ patG embC T at_ (ps.drop k) = patG embC T 0 ps
  rest : restP L xs u = T.drop at_.toNat
  form : ∃ last, validP T.length last (ps.drop k) = true ∧ at_ ≤ last + 1 ∧ at_ ≤ T.length
  cnt : ys.length + xs.length ≤ N + 3 * k
  oy : ∀ y ∈ ys, POk MT L y ∧ 0 < y.n
  ox : ∀ x ∈ xs, POk MT L x
  u0 : 0 ≤ u
  a0 : 0 ≤ at_
  ux : ∀ x r, xs = x :: r → u < x.n ∨ (u = 0 ∧ x.n = 0)
  rbn : w.heap.size ≤ rb
  lbn : lb < w.heap.size

theorem RpL.start {MT : Nat} {L : List Ent} {B lb : Nat} {w wr : World} {rb : Nat} {T : List (Int × Int)} {ps : List PC} {N k : Nat} {v : Value} {ys xs : List Pm} {lv : Value} {u at_ : Int} (h : RpL MT L B lb w wr rb T ps N k v ys xs lv u at_) (tgt : Int) (h1 : at_ ≤ tgt) :
    RdL MT L (flatP (txt L) ys ++ (T.drop at_.toNat).take (tgt - at_).toNat) (T.drop tgt.toNat) T.length (N + 3 * k + 1) tgt B w.heap.size lb wr wr rb v v ys xs lv u at_ := by
  obtain ⟨last, hv, h2, h3⟩ := h.form
  have a0 := h.a0
  refine ⟨h.m, ⟨by rw [h.rest], ?_, ?_, ?_, h.oy, h.ox, h.u0, h.a0, h.ux⟩, Fr.refl _ _, .inl rfl⟩
  · rw [h.rest, List.drop_drop]; congr 1; omega
  · rw [h.rest, List.length_drop]; omega
  · have := h.cnt
    split <;> omega

/-- At the offset. -/
theorem RdL.at_end {MT : Nat} {L : List Ent} {G1 : List (Int × Int)} {T : List (Int × Int)} {K : Nat} {tgt : Int} {B base lb : Nat} {w wr : World} {rb : Nat} {tv v : Value} {ys xs : List Pm} {lv : Value} {u at_ : Int} (h : RdL MT L G1 (T.drop tgt.toNat) T.length K tgt B base lb w wr rb tv v ys xs lv u at_) (hd : xs = [] ∨ tgt ≤ at_) (h0 : 0 ≤ tgt) (h1 : tgt ≤ T.length) : flatP (txt L) ys = G1 ∧ restP L xs u = T.drop tgt.toNat ∧ at_ = tgt := by
  obtain ⟨e1, e2⟩ := h.s.done hd
  refine ⟨e1, e2, ?_⟩
  have hc := h.s.c
  rw [e2, List.length_drop] at hc
  omega

/-- After the read up to a change: what has been read, and the reader. -/
structure RpM (MT : Nat) (L : List Ent) (B lb : Nat) (w wr : World) (rb : Nat) (T : List (Int × Int)) (N : Nat) (G : List (Int × Int)) (v : Value) (ys xs : List Pm) (lv : Value) (u at_ : Int) : Prop where
  m : RdM B w.heap.size lb wr rb lv xs u at_ v ys
  fr : Fr0 w wr
  flat : flatP (txt L) ys = G
  rest : restP L xs u = T.drop at_.toNat
  up : at_ ≤ T.length
  cnt : ys.length + xs.length ≤ N
  oy : ∀ y ∈ ys, POk MT L y ∧ 0 < y.n
  ox : ∀ x ∈ xs, POk MT L x
  u0 : 0 ≤ u
  a0 : 0 ≤ at_
  ux : ∀ x r, xs = x :: r → u < x.n ∨ (u = 0 ∧ x.n = 0)
  rbn : w.heap.size ≤ rb
  lbn : lb < w.heap.size

theorem own_ge {w : World} {base : Nat} {e : TypeId} {size n : Nat} {v : Value} {xs : List Value} (h : w.ownsRow base e size v n xs) {k : Nat} (hk : v.ownBlock = some k) : base ≤ k := (h.lt k hk).1

/-- The first read of a round. -/
theorem RpL.read {MT : Nat} {L : List Ent} {B lb : Nat} {w wr w' : World} {rb : Nat} {T : List (Int × Int)} {ps : List PC} {N k : Nat} {v : Value} {ys xs : List Pm} {lv : Value} {u at_ : Int} (h : RpL MT L B lb w wr rb T ps N k v ys xs lv u at_) (wx : World) (hx : Fr0 wr wx) {tgt : Int} {v' : Value} {ys' xs' : List Pm} {lv' : Value} {u' at' : Int}
    (hl : RdL MT L (flatP (txt L) ys ++ (T.drop at_.toNat).take (tgt - at_).toNat) (T.drop tgt.toNat) T.length (N + 3 * k + 1) tgt B w.heap.size lb wx w' rb v v' ys' xs' lv' u' at') (hd : xs' = [] ∨ tgt ≤ at') (h0 : 0 ≤ tgt) (h1 : tgt ≤ T.length) :
    RpM MT L B lb w w' rb T (N + 3 * k + 1) (flatP (txt L) ys ++ (T.drop at_.toNat).take (tgt - at_).toNat) v' ys' xs' lv' u' tgt := by
  obtain ⟨e1, e2, e3⟩ := hl.at_end hd h0 h1
  subst e3
  have hk := hl.s.k
  exact ⟨hl.m, Fr.trans (h.fr.trans hx) hl.f (fun i e hi => by
    rcases e with e | e
    · have := h.rbn; omega
    · have := own_ge h.m.own e; omega), e1, e2, h1, by split at hk <;> omega, hl.s.oy, hl.s.ox, hl.s.u0, hl.s.a0, hl.s.ux, h.rbn, h.lbn⟩

/-- The second read begins. -/
theorem RpM.start {MT : Nat} {L : List Ent} {B lb : Nat} {w wr : World} {rb : Nat} {T : List (Int × Int)} {N : Nat} {G : List (Int × Int)} {v : Value} {ys xs : List Pm} {lv : Value} {u at_ : Int} (h : RpM MT L B lb w wr rb T N G v ys xs lv u at_) (tgt : Int) (h1 : at_ ≤ tgt) :
    RdL MT L ((T.drop at_.toNat).take (tgt - at_).toNat) (T.drop tgt.toNat) T.length (xs.length + 1) tgt B w.heap.size lb wr wr rb (.slice none 0 0) (.slice none 0 0) [] xs lv u at_ := by
  have a0 := h.a0
  have h3 := h.up
  obtain ⟨a, cap, q1, q2, q3, q4, q5⟩ := h.m.ls
  refine ⟨⟨h.m.rd, ⟨a, cap, q1, q2, q3, q4, fun ad had => ⟨(q5 ad had).1, (by intro e; cases e), (q5 ad had).2.2⟩⟩, World.ownsRow_nil _ _ _ _, h.m.low⟩, ⟨by rw [h.rest]; rfl, ?_, ?_, ?_, by simp, h.ox, h.u0, h.a0, h.ux⟩, Fr.refl _ _, .inl rfl⟩
  · rw [h.rest, List.drop_drop]; congr 1; omega
  · rw [h.rest, List.length_drop]; omega
  · simp only [List.length_nil]
    split <;> omega

/-- The second read: what it appends is dropped. -/
theorem RpM.skip {MT : Nat} {L : List Ent} {B lb : Nat} {w wr w' : World} {rb : Nat} {T : List (Int × Int)} {N : Nat} {G : List (Int × Int)} {v : Value} {ys xs : List Pm} {lv : Value} {u at_ : Int} (h : RpM MT L B lb w wr rb T N G v ys xs lv u at_) {tgt : Int} {v' : Value} {ys' xs' : List Pm} {lv' : Value} {u' at' : Int}
    (hl : RdL MT L ((T.drop at_.toNat).take (tgt - at_).toNat) (T.drop tgt.toNat) T.length (xs.length + 1) tgt B w.heap.size lb wr w' rb (.slice none 0 0) v' ys' xs' lv' u' at') (hd : xs' = [] ∨ tgt ≤ at') (h0 : 0 ≤ tgt) (h1 : tgt ≤ T.length) :
    RpM MT L B lb w w' rb T (N + 1) G v ys xs' lv' u' tgt := by
  obtain ⟨e1, e2, e3⟩ := hl.at_end hd h0 h1
  subst e3
  have hk := hl.s.k
  have hcnt := h.cnt
  have hF : Fr (fun k => k = rb) wr w' := Fr.mono hl.f (fun i e _ => by
    rcases e with e | e
    · exact e
    · cases e)
  have hne := h.m.ne
  obtain ⟨a, cap, q1, q2, q3, q4, q5⟩ := hl.m.ls
  obtain ⟨a2, cap2, p1, p2, p3, p4, p5⟩ := h.m.ls
  refine ⟨⟨hl.m.rd, ⟨a, cap, q1, q2, q3, q4, fun ad had => ⟨(q5 ad had).1, ?_, (q5 ad had).2.2⟩⟩, hF.owns h.m.own (fun j hj e => hne (by rw [hj, e])), hl.m.low⟩, Fr.trans h.fr hF (fun i e hi => by have := h.rbn; omega), h.flat, e2, h1, by split at hk <;> omega, h.oy, hl.s.ox, hl.s.u0, hl.s.a0, hl.s.ux, h.rbn, h.lbn⟩
  intro e
  have h2 := own_ge h.m.own e
  have h3 := (q5 ad had).2.2.2
  have := h.lbn
  omega

/-- A piece of the text of a change. -/
theorem piece_ok {MT : Nat} {L : List Ent} (hD : DOk L) (hO : SOk L) {id : Int} {t : List Int} {d : Int} (hb : BalZ L id t d) (hM : t.length ≤ MT) (hpos : 0 < t.length) : POk MT L ⟨id, 0, t.length⟩ ∧ (0 : Int) < (⟨id, 0, t.length⟩ : Pm).n ∧ flatP (txt L) [⟨id, 0, t.length⟩] = t.map embC := by
  have hlen := hb.len hD hO
  have hle := (hO.at id hb.known).1.len1
  have hne : id ≠ 0 := fun e => by
    have := (hb.nil_iff hD hO).1 e
    rw [this] at hpos
    simp at hpos
  refine ⟨⟨by show (0 : Int) ≤ 0; omega, by show (0 : Int) ≤ t.length; omega, by show 0 + (t.length : Int) ≤ _; omega, fun _ => ⟨t, d, hb, by show 0 + (t.length : Int) ≤ _; omega, hM⟩⟩, by show (0 : Int) < t.length; omega, ?_⟩
  show clP (txt L) ⟨id, 0, t.length⟩ ++ [] = _
  unfold clP
  rw [if_neg hne, List.append_nil]
  show (cutL (txt L id) 0 t.length).map embC = _
  rw [hb.text, cut_all rfl rfl]

/-- The round's end. -/
theorem RpM.next {MT : Nat} {L : List Ent} {B lb : Nat} {w w0 wr : World} {rb : Nat} {T : List (Int × Int)} {ps : List PC} {N k : Nat} {v v0 : Value} {ys ys0 xs xs0 : List Pm} {lv lv0 : Value} {u u0 at_ tgt : Int} (h0 : RpL MT L B lb w w0 rb T ps N k v0 ys0 xs0 lv0 u0 at_) (hk : k < ps.length)
    (h : RpM MT L B lb w wr rb T (N + 3 * k + 3) (flatP (txt L) ys0 ++ (T.drop at_.toNat).take (ps[k].at_ - at_).toNat ++ ps[k].text.map embC) v ys xs lv u tgt) (ht : tgt = ps[k].at_ + ps[k].n) : RpL MT L B lb w wr rb T ps N (k + 1) v ys xs lv u tgt := by
  subst ht
  obtain ⟨last, hv, h2, h3⟩ := h0.form
  have hvd := validP_drop hk hv
  rw [Bool.and_eq_true] at hvd
  have hf := h0.fin
  rw [List.drop_eq_getElem_cons hk, patG] at hf
  refine ⟨h.m, h.fr, ?_, h.rest, ⟨_, hvd.2, by omega, h.up⟩, by have := h.cnt; omega, h.oy, h.ox, h.u0, h.a0, h.ux, h.rbn, h.lbn⟩
  rw [h.flat, ← hf]
  simp only [List.append_assoc]

theorem RdM.kept0' {B base lb : Nat} {w w' : World} {rb : Nat} {lv : Value} {xs : List Pm} {u at_ : Int} {tv : Value} {ys : List Pm} (h : RdM B base lb w rb lv xs u at_ tv ys) (hf : Fr0 w w') : RdM B base lb w' rb lv xs u at_ tv ys := h.kept0 hf
theorem RpL.kept0 {MT : Nat} {L : List Ent} {B lb : Nat} {w wr w' : World} {rb : Nat} {T : List (Int × Int)} {ps : List PC} {N k : Nat} {v : Value} {ys xs : List Pm} {lv : Value} {u at_ : Int} (h : RpL MT L B lb w wr rb T ps N k v ys xs lv u at_) (hf : Fr0 wr w') : RpL MT L B lb w w' rb T ps N k v ys xs lv u at_ :=
  ⟨h.m.kept0 hf, h.fr.trans hf, h.fin, h.rest, h.form, h.cnt, h.oy, h.ox, h.u0, h.a0, h.ux, h.rbn, h.lbn⟩
theorem RpM.more {MT : Nat} {L : List Ent} {B lb : Nat} {w wr : World} {rb : Nat} {T : List (Int × Int)} {N M : Nat} {G G' : List (Int × Int)} {v : Value} {ys xs : List Pm} {lv : Value} {u at_ : Int} (h : RpM MT L B lb w wr rb T N G v ys xs lv u at_) (hN : N ≤ M) (hG : G = G') : RpM MT L B lb w wr rb T M G' v ys xs lv u at_ := by
  subst hG
  exact ⟨h.m, h.fr, h.flat, h.rest, h.up, by have := h.cnt; omega, h.oy, h.ox, h.u0, h.a0, h.ux, h.rbn, h.lbn⟩

/-- A piece more. -/
theorem RpM.push {MT : Nat} {L : List Ent} {B lb : Nat} {w wr w' : World} {rb : Nat} {T : List (Int × Int)} {N : Nat} {G : List (Int × Int)} {v v' : Value} {ys xs : List Pm} {lv : Value} {u at_ : Int} {y : Pm} {o : Obj} (h : RpM MT L B lb w wr rb T N G v ys xs lv u at_)
    (h1 : w'.ownsRow w.heap.size 142 3 v' (ys ++ [y]).length ((ys ++ [y]).flatMap Pm.vals)) (hg : (wr.alloc o).grownBy w' v.ownBlock) (hy : POk MT L y ∧ 0 < y.n) : RpM MT L B lb w w' rb T (N + 1) (G ++ flatP (txt L) [y]) v' (ys ++ [y]) xs lv u at_ := by
  have hF : Fr (fun k => v.ownBlock = some k) wr w' := Fr.grown ((Fr.refl _ wr).alloc o) hg (fun k hk _ => hk)
  have hs := hF.size
  obtain ⟨a, c, q1, q2, q3, q4, q5⟩ := h.m.ls
  have hlb := h.lbn
  refine ⟨⟨hF.kept h.m.rd h.m.ne, ⟨a, c, q1, q2.keptF hF (fun ad had => (q5 ad had).2.1), q3, q4, fun ad had => ⟨(q5 ad had).1, fun e => ?_, by have := (q5 ad had).2.2.1; omega, (q5 ad had).2.2.2⟩⟩, h1, by have := h.m.low; omega⟩, Fr.trans h.fr hF (fun i e hi => by have := own_ge h.m.own e; omega), by rw [flatP_append, h.flat], h.rest, h.up, by rw [List.length_append]; have := h.cnt; simp only [List.length_cons, List.length_nil]; omega, ?_, h.ox, h.u0, h.a0, h.ux, h.rbn, h.lbn⟩
  · have := own_ge h1 e
    have := (q5 ad had).2.2.2
    omega
  · intro z hz
    rcases List.mem_append.1 hz with hz | hz
    · exact h.oy z hz
    · simp only [List.mem_singleton] at hz
      subst hz
      exact hy

/-- What replace leaves. -/
def RpPost (MT : Nat) (L : List Ent) (w : World) (G : List (Int × Int)) (N : Nat) (e : Ending) (w' : World) : Prop :=
  ∃ v ys, e = .returned (.tuple #[v, .nilIface]) ∧ Fr0 w w' ∧ w'.ownsRow w.heap.size 142 3 v ys.length (ys.flatMap Pm.vals) ∧ flatP (txt L) ys = G ∧ (∀ y ∈ ys, POk MT L y ∧ 0 < y.n) ∧ ys.length ≤ N

/-- A cell block of the round's own is kept by a read. -/
theorem RdF.cells {rb : Nat} {tv : Value} {w w' : World} (h : RdF rb tv w w') {b : Nat} {o : Obj} (hb : w.heap[b]? = some o) (h1 : b ≠ rb) (h2 : tv.ownBlock ≠ some b) : w'.heap[b]? = some o := Fr.kept h hb (fun e => by
  rcases e with e | e
  · exact h1 e
  · exact h2 e)

set_option maxRecDepth 100000 in
set_option maxHeartbeats 4000000 in
theorem pat_replace {B : Nat} {w : World} {p mb : Nat} {most : Int} {MT : Nat} {L : List Ent} (hS : Sto B w p mb most L) (hO : SOk L) (hD : DOk L) {xs : List Pm} {a : Option Addr} {cap : Nat} (hX : RG Pm.vals 3 B w a xs) (hal : ∀ ad, a = some ad → ad.block < w.heap.size) (hox : ∀ x ∈ xs, POk MT L x) (hc : xs.length ≤ cap) (hc2 : cap ≤ 9223372036854775807)
    {T : List (Int × Int)} (hT : flatP (txt L) xs = T) (hTl : (T.length : Int) ≤ 1152921504606846976) {cs : List Chg} {ps : List PC} {pa : Option Addr} {pcap : Nat} (hC : RG Chg.vals 3 B w pa cs) (hP : PChg L cs ps) (hv : validP T.length (-1) ps = true) (hN : xs.length + 3 * ps.length + 10 ≤ 800000) (hMT : ∀ c ∈ ps, c.text.length ≤ MT) :
    Calls Tryz.prog 66 #[.pointer (some ⟨p, 0, none⟩), .slice a xs.length cap, .slice pa cs.length pcap] w (RpPost MT L w (patG embC T 0 ps) (xs.length + 3 * ps.length + 1)) := by
  obtain ⟨lb, hlb1, hlb2⟩ : ∃ lb, lb < w.heap.size ∧ ∀ ad, a = some ad → ad.block = lb := by
    cases a with
    | none =>
      obtain ⟨sv, hS', _⟩ := hS
      exact ⟨p, lt_of_block hS'.ptr, fun ad h => by cases h⟩
    | some ad => exact ⟨ad.block, hal _ rfl, fun ad' h => by cases h; rfl⟩
  have H0 : Hid (∀ W, Fr0 w W → W.heap[w.heap.size]? = some (.cells #[.slice a xs.length cap, .int .i64 0, .int .i64 0] 190 (0, 0)) → RpL MT L B lb w W w.heap.size T ps xs.length 0 (.slice none 0 0) [] xs (.slice a xs.length cap) 0 0) := by
    intro W hW hrd
    have hs := Fr.size hW
    exact ⟨⟨hrd, ⟨a, cap, rfl, hX.kept0 hW, hc, hc2, fun ad had => ⟨by have := hlb2 ad had; omega, (by intro e; cases e), by have := hlb2 ad had; omega, hlb2 ad had⟩⟩, World.ownsRow_nil _ _ _ _, hs⟩, hW, by simp [flatP], by rw [restP_zero, hT]; rfl, ⟨-1, by simpa using hv, by omega, by omega⟩, by simp, by simp, hox, by omega, by omega, fun x r hx => by
      have := (hox x (by rw [hx]; simp)).n0
      omega, Nat.le_refl _, hlb1⟩
  have HS := Lib.hid hS
  have HO := Lib.hid hO
  have HD := Lib.hid hD
  have HC := Lib.hid hC
  have HP := Lib.hid hP
  have HMT := Lib.hid hMT
  have HCL := Lib.hid hP.len
  have hcl2 : cs.length ≤ 800000 := by have := hP.len; omega
  clear hS hO hD hC hP hX hal hox hT hv hMT hlb1 hlb2 hc hc2
  go_enter Tryz.func66, Tryz.ntmps66
  go_wp2_with fail
  have h0 := H0.out _ ((Fr0.refl w).alloc _) (alloc_at w _ _ rfl)
  have HL0 := Lib.hid h0
  clear H0 h0
  go_loopw [8, 18] (fun v i wr => ∃ (k : Nat) (ys zs : List Pm) (lv : Value) (u at_ : Int), k ≤ cs.length ∧ i = .int .i64 k ∧ RpL MT L B lb w wr w.heap.size T ps xs.length k v ys zs lv u at_) (fun _ i _ => cs.length - (intOf i).toNat)
  case atStart => exact ⟨0, [], xs, _, 0, 0, Nat.zero_le _, rfl, HL0.out⟩
  case round =>
    obtain ⟨k, ys, zs, lv, u, at_, hk, rfl, hr⟩ := hrel
    clear HL0
    by_cases hlt : k < cs.length
    · have hlt2 : k < ps.length := by have := HCL.out; omega
      obtain ⟨b, off, rfl, lbk, _, hc⟩ := (HC.out.kept0 hr.fr) k hlt
      have c0 := hc 0 _ rfl
      have c1 := hc 1 _ rfl
      have c2 := hc 2 _ rfl
      rw [Nat.add_zero] at c0
      obtain ⟨g1, g2, dx, hbx⟩ := HP.out.get k hlt hlt2
      obtain ⟨last, hfm, hla, hat⟩ := hr.form
      obtain ⟨v1, v2, v3⟩ := validP_get _ _ hfm 0 (by rw [List.length_drop]; omega)
      have hvd := validP_drop hlt2 hfm
      rw [Bool.and_eq_true] at hvd
      obtain ⟨_, _, _, t4, _⟩ := fitP_true hvd.1
      rw [List.getElem_drop] at v1 v2 v3
      have CSZ := Lib.hid (fun W (hW : Fr0 wr W) => sto_size (HS.out.kept0 (hr.fr.trans hW)) HD.out HO.out hbx)
      have HPO := Lib.hid (fun h => piece_ok HD.out HO.out hbx (HMT.out _ (List.getElem_mem _)) h)
      have HNX := Lib.hid (fun wx v ys xs lv u tgt h ht => RpM.next (wr := wx) (v := v) (ys := ys) (xs := xs) (lv := lv) (u := u) (tgt := tgt) hr hlt2 h ht)
      have HR := Lib.hid hr
      have hrb := lt_of_block hr.m.rd
      have hvb := hr.m.own.lt
      have HVB := Lib.hid hvb
      have hat2 : at_ ≤ cs[k].at_ := by rw [g1]; omega
      simp only [Nat.add_zero] at v1 v2 v3
      rw [← g1, ← g2] at HNX v3
      rw [← g1] at v1
      rw [← g2] at v2
      clear hc g1 g2 hbx hr hfm hla hat hvd t4 hvb HC HS HO HD HP HMT
      generalize cs[k] = c at *
      generalize ps[k].text = tx at *
      go_wp2_with fail
      refine (CSZ.out _ ((Fr0.refl wr).alloc _)).mono ?_
      rintro e w3 ⟨rfl, f3⟩
      have hcz := f3.kept (b := wr.heap.size) (alloc_at wr _ _ rfl)
      have F3 := ((Fr0.refl wr).alloc (.cells #[.int .i64 c.at_, .int .i64 c.n, .int .i64 c.text] 41 (0, 0))).trans f3
      obtain ⟨e0, e1, e2, _, le⟩ := cells3 hcz
      have hkN : xs.length + 3 * k + 1 ≤ 900000 := by have := HCL.out; omega
      have CR1 := Lib.hid (pat_read ((HR.out.kept0 F3).start c.at_ hat2) hkN (by omega) v1 (by omega))
      have HF3 := Lib.hid F3
      have HCZ := Lib.hid hcz
      clear f3 CSZ F3 hcz
      go_wp2_with fail
      refine CR1.out.mono ?_
      rintro e w4 ⟨v4, ys4, xs4, lv4, u4, at4, rfl, hl, hd⟩
      have hm4 := HR.out.read _ HF3.out hl hd v1 (by omega)
      have hcz4 := hl.f.cells HCZ.out (by omega) (fun e => by have := (HVB.out _ e).2; omega)
      clear e0 e1 e2 le hl hd CR1
      obtain ⟨e0, e1, e2, _, le⟩ := cells3 hcz4
      have hx4 : xs4.length + 1 ≤ 900000 := by have := hm4.cnt; omega
      have CR2 := Lib.hid (pat_read (hm4.start (c.at_ + c.n) (by omega)) hx4 (by omega) (by omega) (by omega))
      have HM4 := Lib.hid hm4
      have HCZ4 := Lib.hid hcz4
      clear hm4 hcz4 HCZ HF3
      go_wp2_with fail
      refine CR2.out.mono ?_
      rintro e w5 ⟨v5, ys5, xs5, lv5, u5, at5, rfl, hl, hd⟩
      have hm5 := HM4.out.skip hl hd (by omega) (by omega)
      have hcz5 := hl.f.cells HCZ4.out (by omega) (by intro e; cases e)
      clear e0 e1 e2 le hl hd CR2 HM4 HCZ4
      obtain ⟨e0, e1, e2, _, le⟩ := cells3 hcz5
      clear hcz5
      by_cases hn : tx.length = 0
      · have q1 : decide ((0 : Int) < (tx.length : Int)) = false := decide_eq_false (by omega)
        have q2 : decide (0 < tx.length) = false := decide_eq_false (by omega)
        have hz : tx = [] := List.eq_nil_of_length_eq_zero hn
        have hX := HNX.out _ _ _ _ _ _ _ (hm5.more (by omega) (by rw [hz]; simp)) rfl
        have HX := Lib.hid hX
        clear hX hm5 hn hz
        go_wp2_with fail
        go_roundw
        case rel => exact ⟨k + 1, ys4, xs5, lv5, u5, _, by omega, by go_num, HX.out⟩
        case measure => simp [intOf]; omega
      · have q1 : decide ((0 : Int) < (tx.length : Int)) = true := decide_eq_true (by omega)
        have q2 : decide (0 < tx.length) = true := decide_eq_true (by omega)
        have hrow := hm5.m.own
        have hbs := hm5.m.low
        have hyl : ys4.length ≤ 1000000 := by have := hm5.cnt; omega
        have HM5 := Lib.hid hm5
        have HPI := Lib.hid (HPO.out (by omega))
        clear hm5 hn
        go_wp2_with (at_builtin; refine wpList_pushG (vals := Pm.vals) rt_piece rfl _ _ rfl w.heap.size _ ys4 rfl hrow hbs 142 ⟨c.text, 0, tx.length⟩ #[.int .i64 c.text, .int .i64 0, .int .i64 tx.length] rfl rfl (by simp [Pm.vals, Value.oneCell']) 1 _ rfl rfl (by omega) hyl ?_; intro v6 w6 hO6 hg6 hat6)
        have hX := HNX.out _ _ _ _ _ _ _ ((HM5.out.push hO6 hg6 ⟨HPI.out.1, HPI.out.2.1⟩).more (by omega) (by rw [HPI.out.2.2])) rfl
        go_roundw
        case rel => exact ⟨k + 1, _, xs5, lv5, u5, _, by omega, by go_num, hX⟩
        case measure => simp [intOf]; omega
    · have hkz : k = cs.length := by omega
      have hdr : ps.drop k = [] := List.drop_of_length_le (by have := HCL.out; omega)
      obtain ⟨last, _, _, hat⟩ := hr.form
      have hkN : xs.length + 3 * k + 1 ≤ 900000 := by have := HCL.out; omega
      have CR := Lib.hid (pat_read (hr.start 9223372036854775807 (by omega)) hkN (by omega) (by omega) (Int.le_refl _))
      have HX : Hid (∀ v' ys' xs' lv' u' at' w', RdL MT L (flatP (txt L) ys ++ (T.drop at_.toNat).take (9223372036854775807 - at_).toNat) (T.drop (9223372036854775807 : Int).toNat) T.length (xs.length + 3 * k + 1) 9223372036854775807 B w.heap.size lb wr w' w.heap.size u8 v' ys' xs' lv' u' at' → (xs' = [] ∨ 9223372036854775807 ≤ at') → RpPost MT L w (patG embC T 0 ps) (xs.length + 3 * ps.length + 1) (.returned (.tuple #[v', .nilIface])) w') := by
        intro v' ys' xs' lv' u' at' w' hl hd
        have e1 := (hl.s.done hd).1
        have hf := hr.fin
        have hks := hl.s.k
        rw [hdr, patG] at hf
        rw [List.take_of_length_le (by rw [List.length_drop]; omega), hf] at e1
        exact ⟨v', ys', rfl, Fr.trans hr.fr hl.f (fun i e hi => by
          rcases e with e | e
          · have := hr.rbn; omega
          · have := own_ge hr.m.own e; omega), hl.m.own, e1, hl.s.oy, by have := HCL.out; split at hks <;> omega⟩
      clear hr hkz hdr hat hkN HC HS HO HD HP HCL HMT
      go_wp2_with fail
      refine CR.out.mono ?_
      rintro e w4 ⟨v4, ys4, xs4, lv4, u4, at4, rfl, hl, hd⟩
      have HX2 := Lib.hid (HX.out _ _ _ _ _ _ _ hl hd)
      clear hl hd HX CR
      go_wp2_with fail
      go_ret2
      exact HX2.out

end Go.Proofs.YtclpndigmidjkaaGreat

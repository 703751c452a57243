/- The walk of newReader. -/
import Derived.Test.YtodmpcnpedpheaaGreatDoorRPx1
set_option linter.unusedSimpArgs false
set_option linter.unusedVariables false
namespace Go.Proofs.YtodmpcnpedpheaaGreatDoor
open Go.RowKit

/-- Changes of a reader that is new. -/
theorem Rd.fr0 {base : Nat} {w W W' : World} {x pp : Nat} {back : Bool} {td : List (Int × Int)} {v : Value} (h : Rd base W x pp back td v) (hb : w.heap.size ≤ base) (hx : w.heap.size ≤ x) (hf : Fr0 w W) (g : Fr (rdS x v) W W') : Fr0 w W' :=
  Fr.trans hf g (fun i hi hlt => by
    rcases hi with e | e
    · omega
    · have := (h.blk e).1; omega)

theorem txt_big {L : List Ent} (hS : SOk L) (hD : DOk L) {id : Int} (hk : isKnown L id) : (txt L id).length ≤ 1152921504606846976 := by
  have h1 := txt_len hD hS _ id (Nat.le_refl _) hk
  have h2 := (hS.at id hk).1.len1
  omega

/-- The reader that newReader makes, and its result's cells. -/
structure NrW (w W : World) (pp : Nat) (back : Bool) (td : List (Int × Int)) (v : Value) : Prop where
  rd : Rd w.heap.size W (w.heap.size + 1) pp back td v
  res : W.heap[w.heap.size]? = some (Obj.cells #[.pointer none, .bool false, .slice none 0 0] 177 (0, 0))
  fr : Fr0 w W

theorem NrW.step {w W W' : World} {pp : Nat} {back : Bool} {td td' : List (Int × Int)} {v v' : Value} (h : NrW w W pp back td v) (g : Rd w.heap.size W' (w.heap.size + 1) pp back td' v') (f : Fr (rdS (w.heap.size + 1) v) W W') : NrW w W' pp back td' v' :=
  ⟨g, f.kept h.res (fun e => by
    rcases e with e | e
    · omega
    · obtain ⟨cur, hc⟩ := owns_block h.rd.row e
      exact ne_of_types hc h.res (by decide) rfl), h.rd.fr0 (Nat.le_refl _) (by omega) h.fr f⟩
theorem NrW.step0 {w W W' : World} {pp : Nat} {back : Bool} {td : List (Int × Int)} {v : Value} (h : NrW w W pp back td v) (f : Fr0 W W') : NrW w W' pp back td v :=
  ⟨h.rd.kept0 f, f.kept h.res, h.fr.trans f⟩
theorem NrW.start (w : World) (pp : Nat) (back : Bool) : NrW w ((w.alloc (Obj.cells #[.pointer none, .bool false, .slice none 0 0] 177 (0, 0))).alloc (Obj.cells #[.pointer (some ⟨pp, 0, none⟩), .bool back, .slice none 0 0] 177 (0, 0))) pp back [] (.slice none 0 0) :=
  ⟨⟨alloc2_1 w _ _, rfl, .inl ⟨rfl, rfl⟩⟩, alloc2_0 w _ _, ((Fr0.refl w).alloc _).alloc _⟩

theorem NrW.put {w W : World} {pp : Nat} {back : Bool} {td : List (Int × Int)} {v : Value} (h : NrW w W pp back td v) :
    (((W.setCell ⟨w.heap.size, 0, none⟩ (.pointer (some ⟨pp, 0, none⟩))).setCell ⟨w.heap.size, 1, none⟩ (.bool back)).setCell ⟨w.heap.size, 2, none⟩ v).heap[w.heap.size]? = some (Obj.cells #[.pointer (some ⟨pp, 0, none⟩), .bool back, v] 177 (0, 0)) ∧
    (((W.setCell ⟨w.heap.size, 0, none⟩ (.pointer (some ⟨pp, 0, none⟩))).setCell ⟨w.heap.size, 1, none⟩ (.bool back)).setCell ⟨w.heap.size, 2, none⟩ v).ownsRow w.heap.size 161 2 v td.length (td.flatMap gvZ) ∧
    Fr0 w (((W.setCell ⟨w.heap.size, 0, none⟩ (.pointer (some ⟨pp, 0, none⟩))).setCell ⟨w.heap.size, 1, none⟩ (.bool back)).setCell ⟨w.heap.size, 2, none⟩ v) := by
  have hf : Fr (fun k => k = w.heap.size) W (((W.setCell ⟨w.heap.size, 0, none⟩ (.pointer (some ⟨pp, 0, none⟩))).setCell ⟨w.heap.size, 1, none⟩ (.bool back)).setCell ⟨w.heap.size, 2, none⟩ v) := fr_set1 (fr_set1 (fr_set1 (Fr.refl _ W) 0 _) 1 _) 2 _
  refine ⟨put3 h.res _ _ _, hf.owns h.rd.row (fun k hk e => ?_), ?_⟩
  · obtain ⟨cur, hc⟩ := owns_block h.rd.row hk
    rw [e] at hc
    exact ne_of_types hc h.res (by decide) rfl
  · exact Fr.trans h.fr hf (fun i hi hlt => by omega)

def NrPost (w : World) (L : List Ent) (pp : Nat) (back : Bool) (R : List Int) (e : Ending) (w' : World) : Prop :=
  ∃ v td, e = .returned (.agg #[.pointer (some ⟨pp, 0, none⟩), .bool back, v]) ∧ w'.ownsRow w.heap.size 161 2 v td.length (td.flatMap gvZ) ∧ GAll L td ∧ restG L back td = R ∧ Fr0 w w'

set_option maxRecDepth 100000 in
set_option maxHeartbeats 4000000 in
theorem px_new {B : Nat} {w : World} {pp tp p mb : Nat} {most : Int} {L : List Ent} {T : List KRow} (hp : Pq B w pp tp p mb most L T) (id : Int) (n : Nat) (back : Bool) (hn : n ≤ (txt L id).length) (hm : n ≤ 800000) (hg : 1 ≤ n → GOk L (id, 1)) :
    Calls Tryz.prog 83 #[.pointer (some ⟨pp, 0, none⟩), .int .i64 id, .int .i64 n, .bool back] w (NrPost w L pp back (tailG L back id n)) := by
  have HP := Lib.hid hp
  have HG := Lib.hid hg
  have hB := hp.base
  have hS := hp.sok
  have hD := hp.dok
  have HW := Lib.hid (NrW.start w pp back)
  clear hp hg
  go_enter Tryz.func83, Tryz.ntmps83
  by_cases hn0 : n = 0
  · subst hn0
    have hR : tailG L back id 0 = [] := List.eq_nil_of_length_eq_zero (tailG_len L back id (Nat.zero_le _))
    go_wp2_with fail
    generalize (w.alloc (Obj.cells #[.pointer none, .bool false, .slice none 0 0] 177 (0, 0))).alloc (Obj.cells #[.pointer (some ⟨pp, 0, none⟩), .bool back, .slice none 0 0] 177 (0, 0)) = W1 at *
    go_loopg [1, 2] 0 (fun gk a b wr => a = .int .i64 id ∧ b = .int .i64 0 ∧ gk = 0 ∧ wr = W1)
    case atStart => exact ⟨rfl, rfl, rfl, rfl⟩
    case round =>
      obtain ⟨rfl, rfl, rfl, rfl⟩ := hrel
      obtain ⟨c0, c1, c2, cf, lx⟩ := cells3 HW.out.rd.box
      obtain ⟨d0, d1, d2, df, ld⟩ := cells3 HW.out.res
      go_wp2_with fail
      obtain ⟨hb, ho, hf⟩ := HW.out.put
      generalize (((wr.setCell ⟨w.heap.size, 0, none⟩ (.pointer (some ⟨pp, 0, none⟩))).setCell ⟨w.heap.size, 1, none⟩ (.bool back)).setCell ⟨w.heap.size, 2, none⟩ (.slice none 0 0)) = W' at *
      clear d0 d1 d2 df ld
      obtain ⟨d0, d1, d2, df, ld⟩ := cells3 hb
      refine bodyPost_ret (v := .agg #[.pointer (some ⟨pp, 0, none⟩), .bool back, .slice none 0 0]) (by simp [results, Tryz.results83, go_sem, d0, d1, d2]) rfl ⟨_, [], rfl, ho, GAll.nil L, ?_, hf⟩
      rw [hR]
      exact restG_nil L back
  · have hgk := HG.out (by omega)
    have HN := Lib.hid (NrI.start (n := n) (back := back) hgk (by omega) hn)
    have q1 : decide ((0 : Int) < (n : Int)) = true := decide_eq_true (by omega)
    have hrl : (tailG L back id n).length = n := tailG_len L back id hn
    have HU := HP.out.uq
    go_wp2_with fail
    generalize (w.alloc (Obj.cells #[.pointer none, .bool false, .slice none 0 0] 177 (0, 0))).alloc (Obj.cells #[.pointer (some ⟨pp, 0, none⟩), .bool back, .slice none 0 0] 177 (0, 0)) = W1 at *
    refine (rd_push HW.out.rd (Fr.size HW.out.fr) (by simp) id 1).mono ?_
    rintro e w2 ⟨v2, rfl, r2, f2, _⟩
    have HW2 := Lib.hid (HW.out.step r2 f2)
    clear r2 f2 HW
    obtain ⟨R, hR⟩ : ∃ R, tailG L back id n = R := ⟨_, rfl⟩
    rw [hR] at HN hrl
    clear q1 hgk HG hn
    go_wp2_with fail
    go_loopg [1, 2] id.toNat (fun gk a b wr => ∃ (id' : Int) (n' : Nat) (td : List (Int × Int)) (q : Int) (v : Value), a = .int .i64 id' ∧ b = .int .i64 (n' : Nat) ∧ gk = id'.toNat ∧ NrI L back R id' n' td q ∧ NrW w wr pp back (td ++ [(id', q + 1)]) v)
    case atStart => exact ⟨id, n, [], 0, v2, rfl, rfl, rfl, HN.out, HW2.out⟩
    case round =>
      clear HN HW2
      obtain ⟨i, m, td, q, v, rfl, rfl, hgk, hN, hw⟩ := hrel
      obtain ⟨va, vc, rfl⟩ := owns_form hw.rd.row
      have hb := hN.bnd hS hD
      have hg := hN.g.last
      have hk0 := hg.kn.1
      have hm1 := hN.n1
      have hm2 := hN.n2
      have hq0 := hN.q0
      have HNI := Lib.hid hN
      have HW := Lib.hid hw
      have hi0 : i ≠ 0 := hg.ne
      have CSZ := Lib.hid (px_size (HP.out.kept0 hw.fr) i hg.kn)
      have q1 : decide ((0 : Int) < (m : Int)) = true := decide_eq_true (by omega)
      obtain ⟨Z, hZ⟩ : ∃ Z, (txt L i).length = Z := ⟨_, rfl⟩
      have hZb := txt_big (id := i) hS hD hg.kn
      rw [hZ] at CSZ hm2 hZb
      by_cases hlt : m < Z
      · have q2 : decide ((m : Int) < (Z : Int)) = true := decide_eq_true (by omega)
        have hbs : w.heap.size ≤ wr.heap.size := Fr.size hw.fr
        have hkd : (entAt L i).rule.kind = 2 ∨ (entAt L i).rule.kind = 3 := by
          rcases hD.at i hg.kn hi0 with ⟨g1, _⟩ | ⟨g1, _⟩ | ⟨g1, _⟩
          · exfalso
            rw [txt_letter hg.kn hi0 g1] at hZ
            simp at hZ
            omega
          · exact .inl g1
          · exact .inr g1
        have CO := Lib.hid (fun W (hW : Fr0 wr W) => rd_open (HP.out.kept0 (hw.fr.trans hW)) (hw.step0 hW).rd hB (by omega) (Nat.le_trans hbs (Fr.size hW)) (by omega) hg.kn hi0 (by rcases hkd with e | e <;> omega) (by omega) (by omega))
        have CST := Lib.hid (fun W (hW : Fr0 w W) => sig_Store (HP.out.kept0 hW))
        have CRU := Lib.hid (fun W (hW : Fr0 w W) => sto_Rule (HP.out.kept0 hW).st i hg.kn hi0)
        have hkids : ∀ p ∈ opnG L back i, GOk L p := fun p hp => (kids_ok hS hD hg.kn hi0 hg.lv p hp).1
        have htmb : (entAt L i).rule.kind = 3 → (entAt L i).rule.times ≤ 1152921504606846976 := fun h3 => by
          have h5 := hkids ((entAt L i).rule.left, (entAt L i).rule.times) (by rw [NrI.opn3 h3]; exact List.mem_singleton.2 rfl)
          have h6 := congrArg List.length (txt_pow (id := i) hD hg.kn hi0 h3)
          rw [reps_len] at h6
          have h7 := txt_pos hS hD h5.kn h5.ne
          have h8 := txt_big (id := i) hS hD hg.kn
          have h9 : (entAt L i).rule.times.toNat * 1 ≤ (entAt L i).rule.times.toNat * (txt L (entAt L i).rule.left).length := Nat.mul_le_mul_left _ h7
          have h10 := h5.tm
          dsimp only at h10
          omega
        have HPW := Lib.hid (fun (q' n' once : Nat) (h3 : (entAt L i).rule.kind = 3) ho hq' hn' => hN.pow hS hD h3 q' n' once ho hq' hn')
        have HFA := Lib.hid (fun (far : Int) (h2 : (entAt L i).rule.kind = 2) hf hl => hN.far hS hD (far := far) h2 hf hl)
        have HNE := Lib.hid (fun (far near : Int) (h2 : (entAt L i).rule.kind = 2) hf hf2 hl => hN.near hS hD (far := far) (near := near) h2 hf hf2 hl)
        have HO2 := Lib.hid (fun (far near : Int) (h2 : (entAt L i).rule.kind = 2) hf hf2 => NrI.opn2 (back := back) (far := far) (near := near) h2 hf hf2)
        have HO3 := Lib.hid (fun (h3 : (entAt L i).rule.kind = 3) => NrI.opn3 (back := back) h3)
        clear hN hw
        go_wp2_with fail
        refine CSZ.out.mono ?_
        rintro e w3 ⟨rfl, hf3⟩
        have CO3 := Lib.hid (CO.out _ hf3)
        have HW3 := Lib.hid (HW.out.step0 hf3)
        clear hf3 HW CSZ CO
        go_wp2_with fail
        refine CO3.out.mono ?_
        rintro e w4 ⟨v4, rfl, r4, f4, _⟩
        rw [show q + 1 - 1 = q by omega] at r4
        have HW4 := Lib.hid (HW3.out.step r4 f4)
        clear r4 f4 CO3 HW3
        have CST4 := Lib.hid (CST.out _ HW4.out.fr)
        have CRU4 := Lib.hid (CRU.out _ HW4.out.fr)
        clear CST CRU
        obtain ⟨E, hE⟩ : ∃ E, (entAt L i).rule = E := ⟨_, rfl⟩
        obtain ⟨kd, le, l, r, tm⟩ := E
        rw [hE] at CRU4 HPW HFA HNE HO2 HO3 hkd htmb
        dsimp only at CRU4 HPW HFA HNE HO2 HO3 hkd htmb
        go_wp2_with fail
        refine CST4.out.mono ?_
        rintro e w5 ⟨rfl, rfl⟩
        go_wp2_with fail
        refine CRU4.out.mono ?_
        rintro e w5 ⟨rfl, hf5⟩
        go_upto_region 7 with fail
        have F5 : Fr0 w4 (w5.alloc (.cells #[.int .i64 kd, .int .u8 le, .int .i64 l, .int .i64 r, .int .i64 tm] 42 (0, 0))) := hf5.alloc _
        have b8 := alloc_at w5 (.cells #[.int .i64 kd, .int .u8 le, .int .i64 l, .int .i64 r, .int .i64 tm] 42 (0, 0)) w5.heap.size rfl
        generalize w5.alloc (.cells #[.int .i64 kd, .int .u8 le, .int .i64 l, .int .i64 r, .int .i64 tm] 42 (0, 0)) = W6 at *
        generalize w5.heap.size = K at *
        have HW6 := Lib.hid (HW4.out.step0 F5)
        have HB8 := Lib.hid b8
        clear F5 hf5 HW4 CRU4 CST4
        obtain ⟨e0, e1, e2, e3, e4, le8⟩ := cells5 b8
        clear b8
        go_quiet (fail)
        have HW7 := Lib.hid (HW6.out.step0 ((Fr0.refl W6).drewN nq))
        have b9 := ((Fr0.refl W6).drewN nq).kept HB8.out
        generalize W6.drewN nq = W7 at *
        have HB9 := Lib.hid b9
        clear e0 e1 e2 e3 e4 le8 HB8 HW6
        obtain ⟨e0, e1, e2, e3, e4, le8⟩ := cells5 b9
        clear b9
        rcases hkd with rfl | rfl
        · have hf1 := hkids _ (by rw [HO2.out _ _ rfl rfl rfl]; exact List.mem_cons_self)
          obtain ⟨far, hfar⟩ : ∃ far, far = (if back = true then l else r) := ⟨_, rfl⟩
          obtain ⟨near, hnear⟩ : ∃ near, near = (if back = true then r else l) := ⟨_, rfl⟩
          have HFA2 := Lib.hid (HFA.out far rfl hfar)
          have HNE2 := Lib.hid (HNE.out far near rfl hfar hnear)
          rw [← hfar] at hf1
          have CSF := Lib.hid (px_size (HP.out.kept0 HW7.out.fr) far hf1.kn)
          rw [HO2.out far near rfl hfar hnear] at HW7
          have hsw : (back = true ∧ near = r ∧ far = l) ∨ (back = false ∧ near = l ∧ far = r) := by
            cases back
            · exact .inr ⟨rfl, hnear, hfar⟩
            · exact .inl ⟨rfl, hnear, hfar⟩
          obtain ⟨O, hO⟩ : ∃ O, (txt L far).length = O := ⟨_, rfl⟩
          rw [hO] at CSF HFA2 HNE2
          have hOb := txt_big hS hD hf1.kn
          rw [hO] at hOb
          have hdl : (drpG td i q).length ≤ td.length + 1 := by unfold drpG; split <;> simp
          have CDR := Lib.hid (fun W (hW : Fr0 W7 W) => rd_drop (td := drpG td i q ++ [(far, 1)]) (s := near) (k := 1) (by have := (HW7.out.step0 hW).rd; rw [List.append_assoc]; exact this) (by rw [List.length_append, List.length_singleton]; omega) 1 (by omega) (by omega) (by omega))
          have q3 : IntKind.i64.wrap ((m : Int) - (O : Int)) = (m : Int) - (O : Int) := wrapI (by omega) (by omega)
          clear HFA HNE HO2 HO3 HPW hfar hnear hkids
          rcases hsw with ⟨rfl, rfl, rfl⟩ | ⟨rfl, rfl, rfl⟩
          all_goals
            go_wp2_with fail
            refine CSF.out.mono ?_
            rintro e w8 ⟨rfl, hf8⟩
            have CDR8 := Lib.hid (CDR.out _ hf8)
            have HW8 := Lib.hid (HW7.out.step0 hf8)
            have b10 := hf8.kept HB9.out
            clear e0 e1 e2 e3 e4 le8 CSF CDR hf8 HW7 HB9
            obtain ⟨e0, e1, e2, e3, e4, le8⟩ := cells5 b10
            clear b10
            by_cases hmo : m ≤ O
            · have q4 : decide ((m : Int) ≤ (O : Int)) = true := decide_eq_true (by omega)
              obtain ⟨hN9, hlt9⟩ := HFA2.out hmo
              have HN9 := Lib.hid hN9
              clear hN9
              go_wp2_with fail
              refine CDR8.out.mono ?_
              rintro e w9 ⟨v9, rfl, r9, f9, _⟩
              have hdr : drpG (drpG td i q ++ [(far, 1)]) near (1 - 1) = drpG td i q ++ [(far, 1)] := if_pos (by decide)
              rw [hdr] at r9
              have HW9 := Lib.hid (HW8.out.step r9 f9)
              clear r9 f9
              go_wp2_with fail
              go_roundg (far.toNat)
              case measure => omega
              case rel => exact ⟨far, m, _, 0, v9, rfl, rfl, rfl, HN9.out, HW9.out⟩
            · have q4 : decide ((m : Int) ≤ (O : Int)) = false := decide_eq_false (by omega)
              obtain ⟨hN9, hlt9⟩ := HNE2.out (by omega)
              have HN9 := Lib.hid hN9
              clear hN9
              go_wp2_with fail
              go_roundg (near.toNat)
              case measure => omega
              case rel => exact ⟨near, m - O, _, 0, v4, rfl, by go_num, rfl, HN9.out, by have := HW8.out; rw [List.append_assoc]; exact this⟩
        · have hl1 := hkids (l, tm) (by rw [HO3.out rfl]; exact List.mem_singleton.2 rfl)
          obtain ⟨O, hO⟩ : ∃ O, (txt L l).length = O := ⟨_, rfl⟩
          obtain ⟨hN9, hq9, hlt9, hO1⟩ := HPW.out _ _ O rfl hO.symm rfl rfl
          have CSF := Lib.hid (px_size (HP.out.kept0 HW7.out.fr) l hl1.kn)
          rw [HO3.out rfl] at HW7
          rw [hO] at CSF
          have hdl : (drpG td i q).length ≤ td.length + 1 := by unfold drpG; split <;> simp
          have hOb := txt_big hS hD hl1.kn
          rw [hO] at hOb
          have htm : tm ≤ 1152921504606846976 := htmb rfl
          have HN9 := Lib.hid hN9
          obtain ⟨q', hq'⟩ : ∃ q', (m - 1) / O = q' := ⟨_, rfl⟩
          obtain ⟨m', hm'⟩ : ∃ m', (m - 1) % O + 1 = m' := ⟨_, rfl⟩
          rw [hq', hm'] at HN9
          rw [hq'] at hq9
          have hm'1 : m' ≤ m := by have := Nat.mod_le (m - 1) O; omega
          have q3 : IntKind.i64.wrap (tm - 1) = tm - 1 := wrapI (by omega) (by omega)
          have q4 : IntKind.i64.wrap ((m : Int) - 1) = (m : Int) - 1 := wrapI (by omega) (by omega)
          have q5 : IntKind.i64.wrap (((m : Int) - 1).tdiv (O : Int)) = (q' : Int) := by
            rw [show (m : Int) - 1 = ((m - 1 : Nat) : Int) by omega, Int.tdiv_eq_ediv_of_nonneg (by omega), ← Int.natCast_ediv, hq']
            exact wrapI (by omega) (by omega)
          have q6 : IntKind.i64.wrap (tm - 1 - (q' : Int)) = tm - 1 - (q' : Int) := wrapI (by omega) (by omega)
          have q7 : IntKind.i64.wrap (((m : Int) - 1).tmod (O : Int)) = (m' : Int) - 1 := by
            rw [show (m : Int) - 1 = ((m - 1 : Nat) : Int) by omega, Int.tmod_eq_emod_of_nonneg (by omega), ← Int.natCast_emod]
            rw [show ((m' : Int) - 1) = (((m - 1) % O : Nat) : Int) by omega]
            exact wrapI (by omega) (by omega)
          have q8 : IntKind.i64.wrap ((m' : Int) - 1 + 1) = (m' : Int) := by rw [show (m' : Int) - 1 + 1 = m' by omega]; exact wrapI (by omega) (by omega)
          have q11 : IntKind.i64.wrap (((m : Int) - 1) % (O : Int) + 1) = (m' : Int) := by
            rw [show (m : Int) - 1 = ((m - 1 : Nat) : Int) by omega, ← Int.natCast_emod, show (((m - 1) % O : Nat) : Int) + 1 = (m' : Int) by omega]
            exact wrapI (by omega) (by omega)
          have q9 : ((O : Int) == 0) = false := beq_eq_false_iff_ne.2 (by omega)
          have q10 : ¬ (O = 0) := by omega
          have CDR := Lib.hid (fun W (hW : Fr0 W7 W) => rd_drop (td := drpG td i q) (s := l) (k := tm) (HW7.out.step0 hW).rd (by omega) (tm - 1 - q') (by omega) (by omega) htm)
          have hdr : drpG (drpG td i q) l (tm - (tm - 1 - (q' : Int))) = drpG td i q ++ [(l, (q' : Int) + 1)] := by
            rw [show tm - (tm - 1 - (q' : Int)) = (q' : Int) + 1 by omega]
            exact if_neg (by omega)
          rw [hdr] at CDR
          clear HFA HNE HO2 HO3 HPW hkids hq' hm' hdr htmb
          cases back
          all_goals
            go_wp2_with fail
            refine CSF.out.mono ?_
            rintro e w8 ⟨rfl, hf8⟩
            have CDR8 := Lib.hid (fun W (hW : Fr0 w8 W) => CDR.out W (hf8.trans hW))
            have HW8 := Lib.hid (HW7.out.step0 hf8)
            have b10 := hf8.kept HB9.out
            clear e0 e1 e2 e3 e4 le8 CSF CDR hf8 HW7 HB9
            obtain ⟨e0, e1, e2, e3, e4, le8⟩ := cells5 b10
            clear b10
            go_upto_region 14 with fail
            refine region_still_tail 8 (by kernel_rfl) (by kernel_rfl) ?_
            simp only [List.take_succ_cons, List.take_zero, List.drop_succ_cons, List.drop_zero]
            iterate 8 still_step
            refine wpStill_nil ?_
            go_wp2_with fail
            refine (CDR8.out _ (Fr0.refl w8).drew).mono ?_
            rintro e w9 ⟨v9, rfl, r9, f9, _⟩
            have HW9 := Lib.hid ((HW8.out.step0 (Fr0.refl w8).drew).step r9 f9)
            clear r9 f9
            go_wp2_with fail
            go_roundg (l.toNat)
            case measure => omega
            case rel => exact ⟨l, m', _, _, v9, rfl, rfl, rfl, HN9.out, HW9.out⟩
      · have q2 : decide ((m : Int) < (Z : Int)) = false := decide_eq_false (by omega)
        have HD := Lib.hid (hN.done (by omega))
        clear hN hw
        go_wp2_with fail
        refine CSZ.out.mono ?_
        rintro e w3 ⟨rfl, hf3⟩
        have HW3 := Lib.hid (HW.out.step0 hf3)
        clear hf3 HW CSZ
        obtain ⟨c0, c1, c2, cf, lx⟩ := cells3 HW3.out.rd.box
        obtain ⟨d0, d1, d2, df, ld⟩ := cells3 HW3.out.res
        go_wp2_with fail
        obtain ⟨hb, ho, hf⟩ := HW3.out.put
        have hl1 : (td ++ [(i, q + 1)]).length = td.length + 1 := by simp
        rw [hl1] at hb ho hf
        generalize (((w3.setCell ⟨w.heap.size, 0, none⟩ (.pointer (some ⟨pp, 0, none⟩))).setCell ⟨w.heap.size, 1, none⟩ (.bool back)).setCell ⟨w.heap.size, 2, none⟩ (.slice va (td.length + 1) vc)) = W' at *
        clear d0 d1 d2 df ld
        obtain ⟨d0, d1, d2, df, ld⟩ := cells3 hb
        refine bodyPost_ret (v := .agg #[.pointer (some ⟨pp, 0, none⟩), .bool back, .slice va (td.length + 1) vc]) (by simp [results, Tryz.results83, go_sem, d0, d1, d2]) rfl ⟨_, td ++ [(i, q + 1)], rfl, ?_, HNI.out.g, HD.out.trans hR.symm, hf⟩
        rw [hl1]
        exact ho

end Go.Proofs.YtodmpcnpedpheaaGreatDoor

/- Plain facts and states for the laws of merge. -/
import Derived.Test.YtbhidkmhlfggfaaGreatDoorQLg1
import Derived.Test.YtbhidkmhlfggfaaGreatDoorQRf3
set_option linter.unusedSimpArgs false
set_option linter.unusedVariables false
namespace Go.Proofs.YtbhidkmhlfggfaaGreatDoor
open Go.RowKit
theorem sdG_rng {t : List Int} {e : Int} (ht : ∀ x ∈ t, 0 ≤ x ∧ x < 256) : ∀ (ps : List PC) (f : Int), (∀ c ∈ ps, ∀ x ∈ c.text, 0 ≤ x ∧ x < 256) → ∀ x ∈ sdG t e f ps, 0 ≤ x ∧ x < 256
 | [], f, _, x, hx => ht x (List.mem_of_mem_drop (List.mem_of_mem_take hx))
 | c :: r, f, hc, x, hx => by
  rw [sdG, List.mem_append, List.mem_append] at hx
  rcases hx with hx | hx | hx
  · exact ht x (List.mem_of_mem_drop (List.mem_of_mem_take hx))
  · exact hc c (by simp) x hx
  · exact sdG_rng ht r _ (fun c' h => hc c' (by simp [h])) x hx
theorem GrOk.mem {t : List Int} {p q : List PC} {gs : List (Grp PC)} (h : GrOk t p q gs) {g : Grp PC} (hg : g ∈ gs) : (∀ c ∈ g.left, c ∈ p) ∧ (∀ c ∈ g.right, c ∈ q) :=
 ⟨fun c hc => by rw [← h.lefts]; exact List.mem_flatMap.2 ⟨g, hg, hc⟩, fun c hc => by rw [← h.rights]; exact List.mem_flatMap.2 ⟨g, hg, hc⟩⟩
theorem GrOk.ne {t : List Int} {p q : List PC} {gs : List (Grp PC)} (h : GrOk t p q gs) : ∀ g ∈ gs, g.left ≠ [] ∨ g.right ≠ [] := by
 obtain ⟨m, G⟩ := h.gi
 exact G.ne
theorem pcs_rng (ps : List PS) : ∀ c ∈ ps.map PS.pc, ∀ x ∈ c.text, 0 ≤ x ∧ x < 256 := by
 intro c hc
 obtain ⟨y, _, rfl⟩ := List.mem_map.1 hc
 exact sbs_rng y.s
theorem roIn_of {s : ByteArray} {ps qs : List PS} {gs : List (Grp PC)} (h : GrOk (sbs s) (ps.map PS.pc) (qs.map PS.pc) gs) (hn : (sbs s).length + insP (ps.map PS.pc) + insP (qs.map PS.pc) ≤ 500) : RoIn (sbs s) (ps.map PS.pc) (qs.map PS.pc) gs where
 inside := h.inside
 fl := h.fl
 fr := h.fr
 ne := h.ne
 len := fun g hg => by have := h.short g hg; unfold sdl sdr; omega
 rng := fun g hg => ⟨sdG_rng (sbs_rng s) _ _ (fun c hc => pcs_rng ps c ((h.mem hg).1 c hc)), sdG_rng (sbs_rng s) _ _ (fun c hc => pcs_rng qs c ((h.mem hg).2 c hc))⟩
theorem grp_count : ∀ gs : List (Grp PC), (∀ g ∈ gs, g.left ≠ [] ∨ g.right ≠ []) → gs.length ≤ (gs.flatMap Grp.left).length + (gs.flatMap Grp.right).length
 | [], _ => by simp
 | g :: gs, h => by
  have ih := grp_count gs (fun x hx => h x (by simp [hx]))
  have h1 := h g (by simp)
  rw [List.flatMap_cons, List.flatMap_cons, List.length_append, List.length_append, List.length_cons]
  rcases h1 with h1 | h1
  · have := List.length_pos_iff.2 h1; omega
  · have := List.length_pos_iff.2 h1; omega
theorem GrOk.count {t : List Int} {p q : List PC} {gs : List (Grp PC)} (h : GrOk t p q gs) : gs.length ≤ p.length + q.length := by
 have := grp_count gs h.ne
 rw [h.lefts, h.rights] at this
 exact this
theorem anyC_len (t : List Int) : ∀ hs : List (Grp PC), (!anyC t hs) = decide ((mgC t hs).length = 0)
 | [] => rfl
 | h :: hs => by
  have ih := anyC_len t hs
  unfold anyC mgC at ih ⊢
  by_cases hc : isC t h = true
  · rw [List.filter_cons_of_pos (by simpa using hc), List.any_cons, hc]
    simp
  · rw [List.filter_cons_of_neg (by simpa using hc), List.any_cons]
    simp only [Bool.not_eq_true] at hc
    rw [hc, Bool.false_or]
    exact ih
theorem mgO_text {t : List Int} {p q : List PC} {gs : List (Grp PC)} (h : GrOk t p q gs) (hn : t.length + insP p + insP q ≤ 500) : ∀ c ∈ mgO t gs, c.text.length ≤ 500 := by
 intro c hc
 unfold mgO at hc
 obtain ⟨g, hg, rfl⟩ := List.mem_map.1 hc
 have hs := h.short g (List.mem_filter.1 hg).1
 unfold chP
 dsimp only
 split
 · unfold sdl; omega
 · unfold sdr; omega
theorem mgC_text {t : List Int} {p q : List PC} {gs : List (Grp PC)} (h : GrOk t p q gs) (hn : t.length + insP p + insP q ≤ 500) : ∀ c ∈ mgC t gs, c.left.length ≤ 500 ∧ c.right.length ≤ 500 := by
 intro c hc
 unfold mgC at hc
 obtain ⟨g, hg, rfl⟩ := List.mem_map.1 hc
 have hs := h.short g (List.mem_filter.1 hg).1
 unfold cfP
 dsimp only
 unfold sdl sdr
 omega
theorem own_kk {B : Nat} {w w' : World} {mp kb pp tp p mb : Nat} {most : Int} {L : List Ent} (hm : Me B w mp kb pp tp p mb most L) (hk : Kk B mb kb w w') {base : Nat} {e : TypeId} {size n : Nat} {v : Value} {xs : List Value} (ho : w.ownsRow base e size v n xs) (he : tyP e = false) : w'.ownsRow base e size v n xs := by
 obtain ⟨T, kn, q⟩ := hm
 refine Ks.owns hk ho he (fun k h1 h2 => ?_)
 obtain ⟨cur, hc⟩ := owns_block ho h1
 subst h2
 rw [q.kmap] at hc
 cases hc
structure TwoO (B base : Nat) (w : World) (L : List Ent) (id : Int) (t : List Int) (d : Int) (a b : Option Addr) (ca cb : Nat) (cs ds : List Chg) (ps qs : List PC) : Prop where
 text : BalZ L id t d
 oa : w.ownsRow base 75 3 (.slice a cs.length ca) cs.length (cs.flatMap Chg.vals)
 ob : w.ownsRow base 75 3 (.slice b ds.length cb) ds.length (ds.flatMap Chg.vals)
 hp : PChg L cs ps
 hq : PChg L ds qs
 vp : validP t.length (-1) ps = true
 vq : validP t.length (-1) qs = true
 sz : t.length + insP ps + insP qs + cs.length + ds.length ≤ 500
theorem TwoO.two {B base : Nat} {w : World} {L : List Ent} {id : Int} {t : List Int} {d : Int} {a b : Option Addr} {ca cb : Nat} {cs ds : List Chg} {ps qs : List PC} (h : TwoO B base w L id t d a b ca cb cs ds ps qs) : Two2 B w L id t d a b ca cb cs ds ps qs :=
 ⟨h.text, owns_rd (vals := Chg.vals) (size := 3) (fun _ _ => rfl) h.oa (by decide) (by decide), owns_rd (vals := Chg.vals) (size := 3) (fun _ _ => rfl) h.ob (by decide) (by decide), own_cap h.oa, own_cap h.ob, h.hp, h.hq, h.vp, h.vq, h.sz⟩
theorem TwoO.next {B base : Nat} {w w' : World} {mp kb pp tp p mb : Nat} {most : Int} {L L' : List Ent} {id : Int} {t : List Int} {d : Int} {a b : Option Addr} {ca cb n : Nat} {cs ds : List Chg} {ps qs : List PC} (h : TwoO B base w L id t d a b ca cb cs ds ps qs) (hm : Me B w mp kb pp tp p mb most L) (hk : Kk B mb kb w w') (hg : Gu L L' n) : TwoO B base w' L' id t d a b ca cb cs ds ps qs :=
 ⟨hg.gr.balz hm.dok h.text, own_kk hm hk h.oa (by decide), own_kk hm hk h.ob (by decide), h.hp.more hg.gr hm.dok, h.hq.more hg.gr hm.dok, h.vp, h.vq, h.sz⟩
theorem All2.cfr {L L' : List Ent} {n : Nat} (hg : Grows L L' n) (hd : DOk L) : ∀ {fs : List Cf} {cps : List CfP}, All2 (CfR L) fs cps → All2 (CfR L') fs cps
 | [], [], _ => trivial
 | f :: fs, c :: cps, h => ⟨⟨h.1.at_, h.1.n, by obtain ⟨d, b⟩ := h.1.left; exact ⟨d, hg.balz hd b⟩, by obtain ⟨d, b⟩ := h.1.right; exact ⟨d, hg.balz hd b⟩⟩, All2.cfr hg hd h.2⟩
 | [], _ :: _, h => h.elim
 | _ :: _, [], h => h.elim
theorem mt_start {B : Nat} {w w1 : World} {mp kb pp tp p mb : Nat} {L L1 : List Ent} {s : ByteArray} {ps qs : List PS} {id d : Int} {va vb : Option Addr} {ca cb : Nat} {cs ds : List Chg} {k : Nat} (hm : Me B w mp kb pp tp p mb 1048576 L) (hl : L.length ≤ 10000) (h : MdR B w w1 p mb 1048576 L L1 (sbs s) (ps.map PS.pc) (qs.map PS.pc) id d va vb ca cb cs ds k) (hc : s.size + costL ps + costL qs ≤ 500) (v1 : validP s.size (-1) (ps.map PS.pc) = true) (v2 : validP s.size (-1) (qs.map PS.pc) = true) :
    Me B w1 mp kb pp tp p mb 1048576 L1 ∧ Kk B mb kb w w1 ∧ L1.length ≤ 11000 ∧ TwoO B w.heap.size w1 L1 id (sbs s) d va vb ca cb cs ds (ps.map PS.pc) (qs.map PS.pc) := by
 have i1 := costL_ins ps
 have i2 := costL_ins qs
 have hle := h.le
 have hln := sbs_len s
 have hg := h.gr.len
 rw [hln] at hle
 have e1 := h.pa.len
 have e2 := h.pb.len
 rw [List.length_map] at e1 e2
 refine ⟨hm.made h.st h.kp h.gr (by omega), Kk.ofK h.kp, by omega, ⟨h.text, h.oa, h.ob, h.pa, h.pb, by rw [hln]; exact v1, by rw [hln]; exact v2, by omega⟩⟩
theorem mt_merge {B base : Nat} {w : World} {mp kb pp tp p mb : Nat} {L : List Ent} {t : List Int} {id d : Int} {va vb : Option Addr} {ca cb : Nat} {cs ds : List Chg} {ps qs : List PC} {hs : List (Grp PC)} (hm : Me B w mp kb pp tp p mb 1048576 L) (hl : L.length ≤ 221000) (h : TwoO B base w L id t d va vb ca cb cs ds ps qs) (hh : dvdG PC.at_ PC.n ps qs = hs) :
    ∃ NM, NM ≤ 209000 ∧ Calls Tryz.prog 22 #[.pointer (some ⟨mp, 0, none⟩), .int .i64 id, .slice va cs.length ca, .slice vb ds.length cb] w (MgPost B w mp kb pp tp p mb 1048576 L t hs NM) := by
 have hsz := h.sz
 obtain ⟨NM, hNM⟩ : ∃ NM, 2 * (cs.length + ds.length) * (17 * 12 + 3) + 2000 = NM := ⟨_, rfl⟩
 subst hh
 exact ⟨NM, by omega, mr_merge 12 hm h.two lst12 hNM.symm (by omega) (by omega)⟩
end Go.Proofs.YtbhidkmhlfggfaaGreatDoor

/- The walk of access.spell. -/
import Derived.Test.YtgldjpldldknoaaGreatDoorRAc1
import Derived.Test.YtgldjpldldknoaaGreatDoorRPx5
import Derived.Deep.RegionHeld3
import Derived.Deep.AppendLies
set_option linter.unusedSimpArgs false
set_option linter.unusedVariables false
namespace Go.Proofs.YtgldjpldldknoaaGreatDoor
open Go.RowKit
structure CpOk (L : List Ent) (p : Int × Int) : Prop where
 kn : isKnown L p.1
 ne : p.1 ≠ 0
 tm : 1 ≤ p.2
def CAll (L : List Ent) (td : List (Int × Int)) : Prop := ∀ p ∈ td, CpOk L p
theorem CAll.last {L : List Ent} {a : List (Int × Int)} {p : Int × Int} (h : CAll L (a ++ [p])) : CpOk L p := h p (by simp)
theorem CAll.init {L : List Ent} {a : List (Int × Int)} {p : Int × Int} (h : CAll L (a ++ [p])) : CAll L a := fun q hq => h q (by simp [hq])
theorem CAll.app {L : List Ent} {a b : List (Int × Int)} (ha : CAll L a) (hb : CAll L b) : CAll L (a ++ b) := fun p hp => (List.mem_append.1 hp).elim (ha p) (hb p)
theorem CAll.drp {L : List Ent} {td : List (Int × Int)} {x k k' : Int} (h : CAll L (td ++ [(x, k)])) (hk : 0 ≤ k') : CAll L (drpG td x k') := by
 unfold drpG
 split
 · exact h.init
 · exact h.init.app (fun q hq => by rw [List.mem_singleton.1 hq]; exact ⟨h.last.kn, h.last.ne, by show 1 ≤ k'; omega⟩)
theorem CAll.len {L : List Ent} (hS : SOk L) (hD : DOk L) : ∀ {td : List (Int × Int)}, CAll L td → td.length ≤ (restG L false td).length
 | [], _ => Nat.zero_le _
 | p :: r, h => by
  have ih := CAll.len hS hD (td := r) (fun q hq => h q (List.mem_cons_of_mem _ hq))
  have hp := h p List.mem_cons_self
  have e : restG L false (p :: r) = restG L false r ++ restG L false [p] := restG_append L false [p] r
  have e2 : restG L false [p] = reps (txB L false p.1) p.2.toNat := by
   show reps (txB L false p.1) p.2.toNat ++ [] = _
   rw [List.append_nil]
  have hl := txt_pos hS hD hp.kn hp.ne
  have ht := hp.tm
  rw [e, e2, List.length_append, reps_len, txB_len, List.length_cons]
  have h1 : 1 * 1 ≤ p.2.toNat * (txt L p.1).length := Nat.mul_le_mul (by omega) hl
  omega
def mesP (L : List Ent) (td : List (Int × Int)) : Nat := (td.map fun p => p.2.toNat * (2 * (txt L p.1).length - 1)).sum
theorem mesP_app (L : List Ent) (a b : List (Int × Int)) : mesP L (a ++ b) = mesP L a + mesP L b := by
 unfold mesP; rw [List.map_append, List.sum_append]
theorem mesP_one (L : List Ent) (x k : Int) : mesP L [(x, k)] = k.toNat * (2 * (txt L x).length - 1) := by unfold mesP; simp
theorem mesP_drp (L : List Ent) (td : List (Int × Int)) (x k : Int) (hk : 1 ≤ k) : mesP L (drpG td x (k - 1)) + (2 * (txt L x).length - 1) = mesP L (td ++ [(x, k)]) := by
 have e : mesP L (drpG td x (k - 1)) = mesP L td + (k - 1).toNat * (2 * (txt L x).length - 1) := by
  unfold drpG
  split
  · rename_i h; rw [h]; simp
  · rw [mesP_app, mesP_one]
 rw [e, mesP_app, mesP_one]
 obtain ⟨q, hq⟩ : ∃ q : Nat, k.toNat = q + 1 := ⟨k.toNat - 1, by omega⟩
 generalize 2 * (txt L x).length - 1 = z
 rw [hq, show (k - 1).toNat = q by omega, Nat.add_mul, Nat.one_mul]
 omega
theorem sp_open {L : List Ent} (hS : SOk L) (hD : DOk L) (hU : Uq L) {td : List (Int × Int)} {x k : Int} (h : CAll L (td ++ [(x, k)])) (h1 : (entAt L x).rule.kind ≠ 1) :
    CAll L (drpG td x (k - 1) ++ opnG L false x) ∧ restG L false (drpG td x (k - 1) ++ opnG L false x) = restG L false (td ++ [(x, k)]) ∧ mesP L (drpG td x (k - 1) ++ opnG L false x) < mesP L (td ++ [(x, k)]) := by
 have hg := h.last
 have ht := hg.tm
 have hx := hg.kn
 have h0 := hg.ne
 dsimp only at ht hx h0
 have hx2 := hx.2
 have hkids : (∀ p ∈ opnG L false x, CpOk L p) ∧ mesP L (opnG L false x) + 1 ≤ 2 * (txt L x).length - 1 := by
  rcases hD.at x hx h0 with ⟨g1, _⟩ | ⟨g1, g2, _⟩ | ⟨g1, g2, _⟩
  · exact absurd g1 h1
  · have hl := congrArg List.length (txt_pair hD hx h0 g1)
    rw [List.length_append] at hl
    have p1 := txt_pos hS hD (id := (entAt L x).rule.left) ⟨by omega, by omega⟩ (by omega)
    have p2 := txt_pos hS hD (id := (entAt L x).rule.right) ⟨by omega, by omega⟩ (by omega)
    have e : opnG L false x = [((entAt L x).rule.right, 1)] ++ [((entAt L x).rule.left, 1)] := by
     unfold opnG; rw [if_neg (by rw [g1]; decide), if_pos g1, if_neg (by decide)]; rfl
    rw [e, mesP_app, mesP_one, mesP_one]
    refine ⟨fun p hp => ?_, by rw [show ((1 : Int)).toNat = 1 by decide]; omega⟩
    simp only [List.singleton_append, List.mem_cons, List.not_mem_nil, or_false] at hp
    rcases hp with rfl | rfl
    · exact ⟨⟨by show (0 : Int) ≤ (entAt L x).rule.right; omega, by show (entAt L x).rule.right ≤ _; omega⟩, by show (entAt L x).rule.right ≠ 0; omega, by show (1 : Int) ≤ 1; omega⟩
    · exact ⟨⟨by show (0 : Int) ≤ (entAt L x).rule.left; omega, by show (entAt L x).rule.left ≤ _; omega⟩, by show (entAt L x).rule.left ≠ 0; omega, by show (1 : Int) ≤ 1; omega⟩
  · have hl := congrArg List.length (txt_pow hD hx h0 g1)
    rw [reps_len] at hl
    have p1 := txt_pos hS hD (id := (entAt L x).rule.left) ⟨by omega, by omega⟩ (by omega)
    have ht2 := hU.pow x hx h0 g1
    have e : opnG L false x = [((entAt L x).rule.left, (entAt L x).rule.times)] := by unfold opnG; rw [if_pos g1]
    rw [e, mesP_one, hl]
    obtain ⟨q, hq⟩ : ∃ q : Nat, (txt L (entAt L x).rule.left).length = q + 1 := ⟨(txt L (entAt L x).rule.left).length - 1, by omega⟩
    obtain ⟨t, htt⟩ : ∃ t : Nat, (entAt L x).rule.times.toNat = t + 2 := ⟨(entAt L x).rule.times.toNat - 2, by omega⟩
    rw [hq, htt]
    refine ⟨fun p hp => ?_, ?_⟩
    · rw [List.mem_singleton.1 hp]
      exact ⟨⟨by show (0 : Int) ≤ (entAt L x).rule.left; omega, by show (entAt L x).rule.left ≤ _; omega⟩, by show (entAt L x).rule.left ≠ 0; omega, by show 1 ≤ (entAt L x).rule.times; omega⟩
    · rw [show 2 * (q + 1) - 1 = 2 * q + 1 by omega, Nat.mul_add, Nat.mul_add, show (t + 2) * (2 * q) = 2 * ((t + 2) * q) by rw [Nat.mul_left_comm]]
      generalize (t + 2) * q = z
      omega
 refine ⟨(h.drp (by omega)).app hkids.1, ?_, ?_⟩
 · rw [restG_open hD hx h0 h1, restG_drop L false td x k 1 (by omega) ht, show ((1 : Int)).toNat = 1 by decide, reps_one]
 · rw [mesP_app]
   have := mesP_drp L td x k ht
   omega
theorem sp_letter {L : List Ent} (hS : SOk L) (hD : DOk L) {td : List (Int × Int)} {x k : Int} (h : CAll L (td ++ [(x, k)])) (h1 : (entAt L x).rule.kind = 1) :
    CAll L (drpG td x (k - 1)) ∧ [(entAt L x).rule.letter] ++ restG L false (drpG td x (k - 1)) = restG L false (td ++ [(x, k)]) ∧ mesP L (drpG td x (k - 1)) < mesP L (td ++ [(x, k)]) := by
 have hg := h.last
 have ht := hg.tm
 have hl := txt_letter hg.kn hg.ne h1
 dsimp only at ht hl
 refine ⟨h.drp (by omega), ?_, ?_⟩
 · rw [restG_drop L false td x k 1 (by omega) ht, show ((1 : Int)).toNat = 1 by decide, reps_one]
   unfold txB
   rw [if_neg (by decide), hl]
 · have := mesP_drp L td x k ht
   rw [hl] at this
   simp at this
   omega
theorem info_byte3 : (Tryz.prog.info? 5).map (fun i => (i.zero, i.size, i.bytes)) = some (some (.int .u8 0), 1, 1) := by kernel_rfl
theorem rt_byte3 : RT 41 5 1 1 := by
 obtain ⟨i, h1, h2, h3, h4⟩ := info_parts info_byte3
 exact ⟨by omega, i, _, by kernel_rfl, h1, h2, h3, h4, rfl⟩
theorem info_copies : (Tryz.prog.info? 181).map (fun i => (i.zero, i.size, i.bytes)) = some (some (.agg #[.int .i64 0, .int .i64 0]), 2, 16) := by kernel_rfl
theorem rt_copies : RT 182 181 2 16 := by
 obtain ⟨i, h1, h2, h3, h4⟩ := info_parts info_copies
 exact ⟨by omega, i, _, by kernel_rfl, h1, h2, h3, h4, rfl⟩
def byz (x : Int) : List Value := [.int .u8 x]
structure Tx (base : Nat) (w : World) (bt : Nat) (v : Value) (out : List Int) : Prop where
 box : w.heap[bt]? = some (Obj.cells #[v] 41 (0, 0))
 row : w.ownsRow base 5 1 v out.length (out.flatMap byz)
theorem Tx.kept0 {base : Nat} {w w' : World} {bt : Nat} {v : Value} {out : List Int} (h : Tx base w bt v out) (hf : Fr0 w w') : Tx base w' bt v out := ⟨hf.kept h.box, hf.owns h.row⟩
theorem cells1t {w : World} {b : Nat} {x0 : Value} {t : TypeId} (h : w.heap[b]? = some (.cells #[x0] t (0, 0))) : w.cell? ⟨b, 0, none⟩ = some x0 ∧ (∀ o, w.frozen? ⟨b, o, none⟩ = false) ∧ b < w.heap.size :=
 ⟨by rw [cell_of_block h]; rfl, fun o => frozen_of_block h o, lt_of_block h⟩
structure SpW (B mb base : Nat) (w W : World) (p : Nat) (most : Int) (L : List Ent) (bt : Nat) (v0 v : Value) (out : List Int) : Prop where
 st : Sto B W p mb most L
 tx : Tx base W bt v out
 fr : Fr (fun k => k = bt ∨ v0.ownBlock = some k) w W
 own : ∀ k, v.ownBlock = some k → v0.ownBlock = some k ∨ w.heap.size ≤ k
theorem SpW.next0 {B mb base : Nat} {w W W' : World} {p : Nat} {most : Int} {L : List Ent} {bt : Nat} {v0 v : Value} {out : List Int} (h : SpW B mb base w W p most L bt v0 v out) (hf : Fr0 W W') : SpW B mb base w W' p most L bt v0 v out :=
 ⟨h.st.keptO (Ko.of0 hf), h.tx.kept0 hf, h.fr.trans (Fr0.fr hf) (fun _ e _ => e), h.own⟩
def SlPost (B mb base : Nat) (w : World) (p : Nat) (most : Int) (L : List Ent) (bt : Nat) (v0 : Value) (out : List Int) (e : Ending) (w' : World) : Prop :=
 ∃ v, e = .returned .nilIface ∧ SpW B mb base w w' p most L bt v0 v out
theorem SpW.far {B mb base : Nat} {w W W' : World} {p : Nat} {most : Int} {L : List Ent} {bt : Nat} {v0 v z : Value} {out : List Int} {td : List (Int × Int)} (h : SpW B mb base w W p most L bt v0 v out) (hB : B ≤ w.heap.size) (hz : W.ownsRow w.heap.size 181 2 z td.length (td.flatMap gvZ)) (f : Fr (fun k => z.ownBlock = some k) W W') : SpW B mb base w W' p most L bt v0 v out := by
 have hblk : ∀ k, z.ownBlock = some k → w.heap.size ≤ k ∧ ∃ cur, W.heap[k]? = some (Obj.cells cur 181 (0, 0)) := fun k hk => by
  obtain ⟨cur, hc⟩ := owns_block hz hk
  exact ⟨(World.ownsRow.lt hz k hk).1, cur, hc⟩
 refine ⟨h.st.keptO ((Ko.refl B W).fr f (fun k hk => by
  obtain ⟨h1, cur, h2⟩ := hblk k hk
  exact ⟨by omega, _, _, _, h2, by decide⟩)), ⟨f.kept h.tx.box (fun e => ?_), f.owns h.tx.row (fun k hk e => ?_)⟩, h.fr.trans f (fun k hk hlt => ?_), h.own⟩
 · obtain ⟨_, cur, h2⟩ := hblk _ e
   exact ne_of_types h2 h.tx.box (by decide) rfl
 · obtain ⟨_, cur, h2⟩ := hblk _ e
   obtain ⟨cur3, h3⟩ := owns_block h.tx.row hk
   rw [h2] at h3
   cases h3
 · have := (hblk k hk).1; omega
theorem SpW.push {B mb base : Nat} {w W W1 w4 : World} {p : Nat} {most : Int} {L : List Ent} {bt : Nat} {v0 v v' : Value} {out ys : List Int} (h : SpW B mb base w W p most L bt v0 v out) (hB : B ≤ base) (hbt : B ≤ bt)
    (hO : w4.ownsRow base 5 1 v' (out ++ ys).length ((out ++ ys).flatMap byz)) (hf1 : Fr0 W W1) (hg : W1.grownBy w4 v.ownBlock) (hat : ∀ k, v'.ownBlock = some k → v.ownBlock = some k ∨ W.heap.size ≤ k) :
    w4.heap[bt]? = some (Obj.cells #[v] 41 (0, 0)) ∧ SpW B mb base w (w4.setCell ⟨bt, 0, none⟩ v') p most L bt v0 v' (out ++ ys) ∧ Fr (fun k => k = bt ∨ v.ownBlock = some k) W (w4.setCell ⟨bt, 0, none⟩ v') := by
 have hblk : ∀ k, v.ownBlock = some k → base ≤ k ∧ ∃ cur, W.heap[k]? = some (Obj.cells cur 5 (0, 0)) := fun k hk => by
  obtain ⟨cur, hc⟩ := owns_block h.tx.row hk
  exact ⟨(World.ownsRow.lt h.tx.row k hk).1, cur, hc⟩
 have F4 : Fr (fun k => v.ownBlock = some k) W w4 := Fr.grown (S := fun k => v.ownBlock = some k) (Fr0.fr hf1) hg (fun k hk _ => hk)
 have b4 := F4.kept h.tx.box (fun e => by
  obtain ⟨_, cur, h2⟩ := hblk _ e
  exact ne_of_types h2 h.tx.box (by decide) rfl)
 have K4 : Ko B W w4 := (Ko.refl B W).fr F4 (fun k hk => by
  obtain ⟨h1, cur, h2⟩ := hblk k hk
  exact ⟨by omega, _, _, _, h2, by decide⟩)
 have F5 : Fr (fun k => k = bt) w4 (w4.setCell ⟨bt, 0, none⟩ v') := fr_set1 (Fr.refl _ w4) 0 v'
 have K5 : Ko B w4 (w4.setCell ⟨bt, 0, none⟩ v') := (Ko.refl B w4).fr F5 (fun k hk => by subst hk; exact ⟨hbt, _, _, _, b4, by decide⟩)
 have F45 : Fr (fun k => k = bt ∨ v.ownBlock = some k) W (w4.setCell ⟨bt, 0, none⟩ v') := Fr.trans (Fr.mono F4 (fun _ hk _ => .inr hk)) F5 (fun _ hk _ => .inl hk)
 refine ⟨b4, ⟨(h.st.keptO K4).keptO K5, ⟨setCell_block b4 0 v', F5.owns hO (fun k hk e => ?_)⟩, h.fr.trans F45 (fun k hk hlt => ?_), fun k hk => ?_⟩, F45⟩
 · obtain ⟨cur, hc⟩ := owns_block hO hk
   rw [e] at hc
   exact ne_of_types hc b4 (by decide) rfl
 · rcases hk with e | e
   · exact .inl e
   · rcases h.own k e with e2 | e2
     · exact .inr e2
     · omega
 · have hs := h.fr.size
   rcases hat k hk with e | e
   · exact h.own k e
   · exact .inr (by omega)
theorem own_built (w : World) (cs : Array Value) (T : TypeId) (size n : Nat) (h : cs.size = n * size) (hn : n ≤ 1000) : (w.alloc (.cells cs T (0, 0))).ownsRow w.heap.size T size (.slice (some ⟨w.heap.size, 0, none⟩) n n) n cs.toList := by
 refine ⟨by simpa using h, .inr ⟨w.heap.size, n, cs, rfl, Nat.le_refl _, alloc_at w _ _ rfl, Nat.le_refl _, by unfold maxLen; omega, h, ?_⟩⟩
 rw [List.take_of_length_le (by simp [h])]
set_option maxRecDepth 100000 in
set_option maxHeartbeats 4000000 in
theorem ac_spell {B mb base : Nat} {w : World} {p bt : Nat} {most : Int} {L : List Ent} {v : Value} {out : List Int} (hS : Sto B w p mb most L) (hSO : SOk L) (hD : DOk L) (hU : Uq L) (hT : Tx base w bt v out) (hB : B ≤ base) (hbt : B ≤ bt) (hb : base ≤ w.heap.size) (id : Int) (hk : isKnown L id) (h0 : id ≠ 0) (hl : (txt L id).length ≤ 1000) (ho : out.length ≤ 100000) :
    Calls Tryz.prog 81 #[.pointer (some ⟨p, 0, none⟩), .int .i64 id, .pointer (some ⟨bt, 0, none⟩)] w (SlPost B mb base w p most L bt v (out ++ txt L id)) := by
 have hBw : B ≤ w.heap.size := Nat.le_trans hB hb
 have HW : Hid (SpW B mb base w w p most L bt v v out) := ⟨hS, hT, Fr.refl _ w, fun k hk => .inl hk⟩
 obtain ⟨R, hR⟩ : ∃ R, out ++ txt L id = R := ⟨_, rfl⟩
 rw [hR]
 have hRl : R.length ≤ 101000 := by rw [← hR, List.length_append]; omega
 have HR0 : Hid (out ++ restG L false [(id, 1)] = R) := by
  show _ = _
  rw [← hR]
  congr 1
  show reps (txB L false id) ((1 : Int)).toNat ++ [] = _
  rw [List.append_nil, show ((1 : Int)).toNat = 1 by decide, reps_one]
  unfold txB
  rw [if_neg (by decide)]
 have HC : Hid (CAll L [(id, 1)]) := fun q hq => by rw [List.mem_singleton.1 hq]; exact ⟨hk, h0, by show (1 : Int) ≤ 1; omega⟩
 clear hS hT hk h0 hl ho hR
 go_enter Tryz.func81, Tryz.ntmps81
 go_wp2_with fail
 have HRW : Hid ((w.alloc (.cells #[.int .i64 id, .int .i64 1] 181 (0, 0))).ownsRow w.heap.size 181 2 (.slice (some ⟨w.heap.size, 0, none⟩) 1 1) [(id, (1 : Int))].length ([(id, (1 : Int))].flatMap gvZ)) := own_built w _ _ 2 1 rfl (by omega)
 have HW1 := Lib.hid (HW.out.next0 ((Fr0.refl w).alloc (.cells #[.int .i64 id, .int .i64 1] 181 (0, 0))))
 generalize w.alloc (.cells #[.int .i64 id, .int .i64 1] 181 (0, 0)) = W1 at *
 clear HW
 go_loopg [7] (mesP L [(id, 1)]) (fun gk tv wr => ∃ (td : List (Int × Int)) (v' : Value) (out' : List Int), gk = mesP L td ∧ wr.ownsRow w.heap.size 181 2 tv td.length (td.flatMap gvZ) ∧ CAll L td ∧ out' ++ restG L false td = R ∧ SpW B mb base w wr p most L bt v v' out')
 case atStart => exact ⟨[(id, 1)], v, out, rfl, HRW.out, HC.out, HR0.out, HW1.out⟩
 case round =>
  clear HRW HC HR0 HW1
  obtain ⟨td, v', out', hgk, hrow, hC, hR, hW⟩ := hrel
  rcases list_end td with rfl | ⟨td', ⟨x, k⟩, rfl⟩
  · obtain ⟨za, zc, rfl⟩ := own_nil hrow
    have HW := Lib.hid hW
    rw [restG_nil, List.append_nil] at hR
    have HR := Lib.hid hR
    clear hrow hC hR hW
    go_wp2_with fail
    go_ret
    refine ⟨v', rfl, ?_⟩
    rw [← HR.out]
    exact HW.out
  · obtain ⟨g, gc, rfl, hbg, lg, gf, gcell, hg1, hg2⟩ := own_end hrow (gvZ_len _)
    have g0 := gcell 0 _ rfl
    have g1 := gcell 1 _ rfl
    rw [Nat.add_zero] at g0
    have hlen := CAll.len hSO hD hC
    have hRl2 := congrArg List.length hR
    rw [List.length_append] at hRl2
    rw [List.length_append, List.length_singleton] at hlen
    have hkx := hC.last.kn
    have hx0 := hC.last.ne
    have hk1 := hC.last.tm
    dsimp only at hkx hx0 hk1
    have hout : out'.length ≤ 101000 := by omega
    have q1 : (0 : Int) ≤ (td'.length : Int) := by omega
    have q2 : (td'.length : Int) < (td'.length : Int) + 1 := by omega
    have q3 : IntKind.i64.wrap ((td'.length : Int) + 1 - 1) = (td'.length : Int) := by rw [show (td'.length : Int) + 1 - 1 = (td'.length : Int) by omega]; exact wrapI (by omega) (by omega)
    have q4 : (0 : Int) < (td'.length : Int) + 1 := by omega
    have q4b : decide ((0 : Int) < (td'.length : Int) + 1) = true := decide_eq_true q4
    have hkb : k ≤ 101000 := by
     have e : (restG L false (td' ++ [(x, k)])).length = k.toNat * (txt L x).length + (restG L false td').length := by
      rw [restG_push, List.length_append, reps_len, txB_len]
     have hp := txt_pos hSO hD hkx hx0
     have h1 : k.toNat * 1 ≤ k.toNat * (txt L x).length := Nat.mul_le_mul_left _ hp
     omega
    have q5 : IntKind.i64.wrap (k - 1) = k - 1 := wrapI (by omega) (by omega)
    have hr5 := hrow
    rw [List.length_append, List.length_singleton] at hr5
    have r1 := owns_set_own hr5 (td'.length * 2 + 1) (.int .i64 (k - 1)) (by rw [gvZ_len, List.length_append, List.length_singleton]; omega)
    rw [gz_set] at r1
    have hf0 : Fr (fun z => z = g) wr (wr.setCell ⟨g, td'.length * 2 + 1, none⟩ (.int .i64 (k - 1))) := fr_set1 (Fr.refl _ wr) (td'.length * 2 + 1) (.int .i64 (k - 1))
    have hfs : Fr (fun z => (Value.slice (some ⟨g, 0, none⟩) (td'.length + 1) gc).ownBlock = some z) wr (wr.setCell ⟨g, td'.length * 2 + 1, none⟩ (.int .i64 (k - 1))) := Fr.mono hf0 (fun z (hz : z = g) _ => congrArg some hz.symm)
    have HW2 := Lib.hid (hW.far hBw (td := td' ++ [(x, k)]) (by rw [List.length_append, List.length_singleton]; exact hr5) hfs)
    have HROW : Hid (∃ n, n = (drpG td' x (k - 1)).length ∧ (wr.setCell ⟨g, td'.length * 2 + 1, none⟩ (.int .i64 (k - 1))).ownsRow w.heap.size 181 2 (.slice (some ⟨g, 0, none⟩) n gc) (drpG td' x (k - 1)).length ((drpG td' x (k - 1)).flatMap gvZ)) := by
     refine ⟨_, rfl, ?_⟩
     unfold drpG
     split
     · rw [List.flatMap_append] at r1
       exact ownsRow_pop (by rw [gvZ_len]) r1
     · rw [List.length_append, List.length_singleton]
       exact r1
    have HCC := Lib.hid hC
    have HR := Lib.hid hR
    clear hrow hr5 r1 hf0 hfs gcell hbg hR hW
    go_upto_if 38 with fail
    obtain ⟨n, hn, hrow⟩ := HROW.out
    have hgc : (td'.length : Int) ≤ (gc : Int) := by omega
    generalize wr.setCell ⟨g, td'.length * 2 + 1, none⟩ (.int .i64 (k - 1)) = W2 at *
    have HR2 := Lib.hid hrow
    clear hrow HROW g0 g1 gf lg
    go_cut [7] (fun u wx => u = .slice (some ⟨g, 0, none⟩) n gc ∧ W2 = wx)
    case first =>
     clear HR HR2 HCC HW2
     by_cases hz : k - 1 = 0
     · have z1 : (k - 1 == 0) = true := by rw [hz]; rfl
       have hn2 : n = td'.length := by rw [hn]; unfold drpG; rw [if_pos hz]
       subst hn2
       clear hz hn
       go_wp2_with fail
       go_meet
       exact ⟨rfl, rfl⟩
     · have z1 : (k - 1 == 0) = false := beq_eq_false_iff_ne.2 hz
       have hn2 : n = td'.length + 1 := by rw [hn]; unfold drpG; rw [if_neg hz, List.length_append, List.length_singleton]
       subst hn2
       clear hz hn
       go_wp2_with fail
       go_meet
       exact ⟨rfl, rfl⟩
    case rest =>
    obtain ⟨rfl, rfl⟩ := hcut
    have hdl : n ≤ 101001 := by
     rw [hn]; unfold drpG
     split
     · omega
     · rw [List.length_append, List.length_singleton]; omega
    have CR := Lib.hid (sto_Rule HW2.out.st x hkx hx0)
    have HSL := Lib.hid (fun h1 => sp_letter hSO hD HCC.out h1)
    have HSO := Lib.hid (fun h1 => sp_open hSO hD hU HCC.out h1)
    have hkd : (entAt L x).rule.kind = 1 ∨ (entAt L x).rule.kind = 2 ∨ (entAt L x).rule.kind = 3 := by
     rcases hD.at x hkx hx0 with ⟨h, _⟩ | ⟨h, _⟩ | ⟨h, _⟩
     · exact .inl h
     · exact .inr (.inl h)
     · exact .inr (.inr h)
    have HO2 := Lib.hid (fun (h2 : (entAt L x).rule.kind = 2) => NrI.opn2 (back := false) (L := L) (id := x) h2 rfl rfl)
    have HO3 := Lib.hid (fun (h3 : (entAt L x).rule.kind = 3) => NrI.opn3 (back := false) (L := L) (id := x) h3)
    obtain ⟨E, hE⟩ : ∃ E, (entAt L x).rule = E := ⟨_, rfl⟩
    obtain ⟨kd, le, l, r, tm⟩ := E
    rw [hE] at CR HSL HSO hkd HO2 HO3
    dsimp only at CR HSL HSO hkd HO2 HO3
    rw [← hgk] at HSL HSO
    have HN := Lib.hid hn
    clear HCC hE hn hlen hC
    generalize drpG td' x (k - 1) = tq at *
    go_wp2_with fail
    refine CR.out.mono ?_
    rintro e w3 ⟨rfl, f3⟩
    go_upto_if 63 with fail
    have F4 : Fr0 W2 (w3.alloc (.cells #[.int .i64 kd, .int .u8 le, .int .i64 l, .int .i64 r, .int .i64 tm] 82 (0, 0))) := f3.alloc _
    have b4 := alloc_at w3 (.cells #[.int .i64 kd, .int .u8 le, .int .i64 l, .int .i64 r, .int .i64 tm] 82 (0, 0)) w3.heap.size rfl
    generalize w3.alloc (.cells #[.int .i64 kd, .int .u8 le, .int .i64 l, .int .i64 r, .int .i64 tm] 82 (0, 0)) = W4 at *
    generalize w3.heap.size = K at *
    have HW4 := Lib.hid (HW2.out.next0 F4)
    have HR4 := Lib.hid (F4.owns HR2.out)
    obtain ⟨c0, c1, c2, c3, c4, lc⟩ := cells5 b4
    have hs4 : w.heap.size ≤ W4.heap.size := HW4.out.fr.size
    clear b4 F4 f3 HW2 HR2 CR hgc hkb hRl2
    rcases hkd with rfl | rfl | rfl
    · have HL := Lib.hid (HSL.out rfl)
      obtain ⟨va, vc, rfl⟩ := owns_form HW4.out.tx.row
      obtain ⟨t0, tf, lt⟩ := cells1t HW4.out.tx.box
      have hob : out'.length ≤ 101000 := hout
      have hbs : base ≤ W4.heap.size := Nat.le_trans hb hs4
      have HTR := Lib.hid HW4.out.tx.row
      have HRK : Hid (∀ W, Fr (fun k => k = bt ∨ (Value.slice va out'.length vc).ownBlock = some k) W4 W → W.ownsRow w.heap.size 181 2 (.slice (some ⟨g, 0, none⟩) n gc) tq.length (tq.flatMap gvZ)) := fun W hf => hf.owns HR4.out (fun z hz e => by
       obtain ⟨cur, hc⟩ := owns_block HR4.out hz
       rcases e with e | e
       · exact ne_of_types hc HW4.out.tx.box (by decide) e
       · obtain ⟨cur3, h3⟩ := owns_block HW4.out.tx.row e
         rw [hc] at h3
         cases h3)
      clear HSL HSO HO2 HO3
      go_upto_region 14 with fail
      go_region_law ((refine step_pushN (vals := byz) rt_byte3 (by rfl) _ _ (by rfl) base (.slice va out'.length vc) out' [le] (by rfl) HTR.out hbs 5 #[.int .u8 le] (by rfl) (by rfl) (by simp [byz, Value.oneCell']) 1 W4.heap.size 1 (by rfl) (by omega) (by rfl) (by rfl) (by omega) (by omega) (by simp) ?_; intro g2 gcap w5 hO5 hg5 hat5; obtain ⟨hb5, hw5, hf5⟩ := HW4.out.push (ys := [le]) hB hbt hO5 ((Fr0.refl W4).alloc _).drew hg5 (fun z hz => hat5.elim (fun e => .inl (e.trans hz)) (fun e => .inr (by have h5 : g2 = z := Option.some.inj hz; omega))); have HW5 := Lib.hid hw5; have HF5 := Lib.hid hf5; clear t0 tf lt hO5 hg5 hat5 hw5 hf5; obtain ⟨t0, tf, lt⟩ := cells1t hb5; clear hb5))
      all_goals
       have HRF := Lib.hid (HRK.out _ HF5.out)
       go_wp2_with fail
       go_roundg (mesP L tq)
       case measure => exact HL.out.2.2
       case rel => exact ⟨tq, _, out' ++ [le], rfl, HRF.out, HL.out.1, (by rw [List.append_assoc, HL.out.2.1]; exact HR.out), HW5.out⟩
    · have e2 : opnG L false x = [(r, 1), (l, 1)] := HO2.out rfl
      have HL := Lib.hid (HSO.out (by decide))
      rw [e2] at HL
      clear HSL HSO HO2 HO3 e2
      have HRO := Lib.hid HR4.out
      have htl : tq.length ≤ 101001 := by have := HN.out; omega
      go_wp2_with (at_builtin; refine wpList_pushN (vals := gvZ) rt_copies rfl _ _ rfl w.heap.size (.slice (some ⟨g, 0, none⟩) n gc) tq [(r, 1), (l, 1)] rfl HRO.out hs4 181 #[.int .i64 r, .int .i64 1, .int .i64 l, .int .i64 1] rfl rfl (by simp [gvZ, Value.oneCell']) _ _ _ rfl rfl rfl (by omega) (by omega) (by simp) ?_; intro v5 w5 hO5 hg5 hat5; have HW5 := Lib.hid (HW4.out.far hBw HRO.out (Fr.grown (S := fun z => (Value.slice (some ⟨g, 0, none⟩) n gc).ownBlock = some z) (Fr0.fr ((Fr0.refl W4).alloc _)) hg5 (fun z hz _ => hz))); have HO5 := Lib.hid hO5; clear hO5 hg5 hat5)
      go_roundg (mesP L (tq ++ [(r, 1), (l, 1)]))
      case measure => exact HL.out.2.2
      case rel => exact ⟨_, v', out', rfl, HO5.out, HL.out.1, (by rw [HL.out.2.1]; exact HR.out), HW5.out⟩
    · have e2 : opnG L false x = [(l, tm)] := HO3.out rfl
      have HL := Lib.hid (HSO.out (by decide))
      rw [e2] at HL
      clear HSL HSO HO2 HO3 e2
      have HRO := Lib.hid HR4.out
      have htl : tq.length ≤ 101001 := by have := HN.out; omega
      go_wp2_with (at_builtin; refine wpList_pushN (vals := gvZ) rt_copies rfl _ _ rfl w.heap.size (.slice (some ⟨g, 0, none⟩) n gc) tq [(l, tm)] rfl HRO.out hs4 181 #[.int .i64 l, .int .i64 tm] rfl rfl (by simp [gvZ, Value.oneCell']) _ _ _ rfl rfl rfl (by omega) (by omega) (by simp) ?_; intro v5 w5 hO5 hg5 hat5; have HW5 := Lib.hid (HW4.out.far hBw HRO.out (Fr.grown (S := fun z => (Value.slice (some ⟨g, 0, none⟩) n gc).ownBlock = some z) (Fr0.fr ((Fr0.refl W4).alloc _)) hg5 (fun z hz _ => hz))); have HO5 := Lib.hid hO5; clear hO5 hg5 hat5)
      go_roundg (mesP L (tq ++ [(l, tm)]))
      case measure => exact HL.out.2.2
      case rel => exact ⟨_, v', out', rfl, HO5.out, HL.out.1, (by rw [HL.out.2.1]; exact HR.out), HW5.out⟩
end Go.Proofs.YtgldjpldldknoaaGreatDoor

/- The walk of ref12.derive over letters and pairs. -/
import Derived.Test.YtclpndigmidjkaaGreatQf
import Derived.Test.YtclpndigmidjkaaGreatQR37a
import Derived.Deep.DeepMust
import Derived.Test.YtclpndigmidjkaaGreatQk
set_option linter.unusedSimpArgs false
set_option linter.unusedVariables false
namespace Go.Proofs.YtclpndigmidjkaaGreat
open Go.RowKit

set_option maxRecDepth 100000 in
set_option maxHeartbeats 1000000 in
theorem derive_letter {w : World} {b off n cap : Nat} {N : Nat} {c : Int} (hn : n < N) (hN : N ≤ 1000000) (lb : b < w.heap.size)
    (c0 : w.cell? ⟨b, off + n * 5, none⟩ = some (.int .i64 1)) (c1 : w.cell? ⟨b, off + n * 5 + 1, none⟩ = some (.int .u8 c)) (c2 : w.cell? ⟨b, off + n * 5 + 2, none⟩ = some (.int .i64 0))
    (c3 : w.cell? ⟨b, off + n * 5 + 3, none⟩ = some (.int .i64 0)) (c4 : w.cell? ⟨b, off + n * 5 + 4, none⟩ = some (.int .i64 0)) :
    Calls Tryz.prog 113 #[.slice (some ⟨b, off, none⟩) N cap, .int .i64 ((n : Int) + 1)] w (PlPost w [c]) := by
  have e1 := IntWalk.i64_in (n : Int) (by omega)
  have hnI : (n : Int) < (N : Int) := by omega
  go_enter Tryz.func113, Tryz.ntmps113
  go_wp2_with fail
  go_ret
  refine ⟨w.heap.size + 1, 1, rfl, ⟨⟨rfl, .inr ⟨w.heap.size + 1, 1, #[.int .u8 c], rfl, Nat.le_succ _, ?_, Nat.le_refl _, by decide, rfl, rfl⟩⟩, ((Fr0.refl w).alloc _).alloc _⟩⟩
  exact alloc2_1 _ _ _

theorem own_some {w : World} {base : Nat} {e : TypeId} {size n : Nat} {v : Value} {xs : List Value} (h : w.ownsRow base e size v n xs) (hn : 0 < n) : ∃ g cap, v = .slice (some ⟨g, 0, none⟩) n cap := by
  rcases h.2 with ⟨h1, h2⟩ | ⟨g, cap, cur, h1, _⟩
  · omega
  · exact ⟨g, cap, h1⟩

set_option maxRecDepth 100000 in
set_option maxHeartbeats 4000000 in
theorem derive_pair {w : World} {b off n cap : Nat} {N : Nat} {l r : Nat} {tl tr : List Int} (hn : n < N) (hN : N ≤ 1000000) (lb : b < w.heap.size)
    (c0 : w.cell? ⟨b, off + n * 5, none⟩ = some (.int .i64 2)) (c1 : w.cell? ⟨b, off + n * 5 + 1, none⟩ = some (.int .u8 0)) (c2 : w.cell? ⟨b, off + n * 5 + 2, none⟩ = some (.int .i64 ((l : Int) + 1)))
    (c3 : w.cell? ⟨b, off + n * 5 + 3, none⟩ = some (.int .i64 ((r : Int) + 1))) (c4 : w.cell? ⟨b, off + n * 5 + 4, none⟩ = some (.int .i64 0)) (hl : l < n) (hr : r < n) (hpr : 0 < tr.length) (hlen : tl.length + tr.length ≤ 4096)
    (CL : Hid (∀ W, Fr0 w W → Calls Tryz.prog 113 #[.slice (some ⟨b, off, none⟩) N cap, .int .i64 ((l : Int) + 1)] W (PlPost W tl)))
    (CR : Hid (∀ W, Fr0 w W → Calls Tryz.prog 113 #[.slice (some ⟨b, off, none⟩) N cap, .int .i64 ((r : Int) + 1)] W (PlPost W tr))) :
    Calls Tryz.prog 113 #[.slice (some ⟨b, off, none⟩) N cap, .int .i64 ((n : Int) + 1)] w (PlPost w (tl ++ tr)) := by
  have e1 := IntWalk.i64_in (n : Int) (by omega)
  have hnI : (n : Int) < (N : Int) := by omega
  go_enter Tryz.func113, Tryz.ntmps113
  go_wp2_with fail
  have f2 : Fr0 w ((w.alloc (.cells #[.int .i64 2, .int .u8 0, .int .i64 ((l : Int) + 1), .int .i64 ((r : Int) + 1), .int .i64 0] 132 (0, 0))).alloc (.cells #[] 5 (0, 0))) := ((Fr0.refl w).alloc _).alloc _
  have hE2 : ((w.alloc (.cells #[.int .i64 2, .int .u8 0, .int .i64 ((l : Int) + 1), .int .i64 ((r : Int) + 1), .int .i64 0] 132 (0, 0))).alloc (.cells #[] 5 (0, 0))).ownsRow w.heap.size 5 1 (.slice (some ⟨w.heap.size + 1, 0, none⟩) 0 0) 0 [] :=
    ⟨rfl, .inr ⟨w.heap.size + 1, 0, #[], rfl, Nat.le_succ _, alloc2_1 _ _ _, Nat.le_refl _, by decide, rfl, rfl⟩⟩
  have hB2 : ((w.alloc (.cells #[.int .i64 2, .int .u8 0, .int .i64 ((l : Int) + 1), .int .i64 ((r : Int) + 1), .int .i64 0] 132 (0, 0))).alloc (.cells #[] 5 (0, 0))).heap[w.heap.size]? = some (.cells #[.int .i64 2, .int .u8 0, .int .i64 ((l : Int) + 1), .int .i64 ((r : Int) + 1), .int .i64 0] 132 (0, 0)) := alloc2_0 _ _ _
  refine (CL.out _ f2).mono ?_
  rintro e w3 ⟨g1, cap1, rfl, hO1⟩
  have f3 := f2.trans hO1.fr
  have hE3 := hO1.fr.owns hE2
  have HB3 := Lib.hid (hO1.fr.kept hB2)
  have HN1 := Lib.hid hO1.news
  have HF3 := Lib.hid f3
  have hsz3 : w.heap.size ≤ w3.heap.size := Fr.size f3
  have HE3 := Lib.hid hE3
  have x1 : tl.length ≤ 4096 := by omega
  clear f2 hE2 hB2 hO1 f3 hE3 CL c0 c1 c2 c3 c4
  go_wp2_with (at_builtin; go_must (refine wpList_append_rt rt_byte rfl _ _ rfl w.heap.size (.slice (some ⟨w.heap.size + 1, 0, none⟩) 0 0) 0 [] rfl HE3.out (.slice (some ⟨g1, 0, none⟩) tl.length cap1) tl.length (tl.map fun x => Value.int .u8 x) rfl (.inr ⟨_, cap1, rfl, HN1.out⟩) (by simp) (fun u hu => by obtain ⟨z, _, rfl⟩ := List.mem_map.1 hu; rfl) (by unfold maxLen; omega) (by omega) hsz3 ?_; intro v4 w4 hr4 hg4 hat4; rw [Nat.zero_add, List.nil_append] at hr4; have hF4 : Fr (fun j => (Value.slice (some ⟨w.heap.size + 1, 0, none⟩) 0 0).ownBlock = some j) w3 w4 := Fr.grown (Fr.refl _ w3) hg4 (fun j hj _ => hj); have hB4 := hF4.kept HB3.out (fun e => by obtain ⟨cur, hc⟩ := owns_block HE3.out e; exact ne_of_types hc HB3.out (by decide) rfl); have HF4 : Hid (Fr0 w w4) := Lib.hid (Fr.grown HF3.out hg4 (fun j hj hlt => by have := (HE3.out.lt j hj).1; omega)); have HR4 := Lib.hid hr4; have HB4 := Lib.hid hB4; obtain ⟨va4, vc4, rfl⟩ := owns_form hr4; obtain ⟨k0, k1, k2, k3, k4, kl⟩ := cells5 hB4; clear hr4 hg4 hat4 hF4 hB4))
  refine (CR.out _ HF4.out).mono ?_
  rintro e w5 ⟨g2, cap2, rfl, hO2⟩
  have HE5 := Lib.hid (hO2.fr.owns HR4.out)
  have HN2 := Lib.hid hO2.news
  have HF5 := Lib.hid (HF4.out.trans hO2.fr)
  have hsz5 : w.heap.size ≤ w5.heap.size := Fr.size HF5.out
  have x2 : tr.length ≤ 4096 := by omega
  clear hO2 CR HR4 HB4 HF4 HF3 HN1 HE3
  go_wp2_with (at_builtin; refine wpList_append_rt rt_byte rfl _ _ rfl w.heap.size (.slice va4 tl.length vc4) tl.length (tl.map fun x => Value.int .u8 x) rfl HE5.out (.slice (some ⟨g2, 0, none⟩) tr.length cap2) tr.length (tr.map fun x => Value.int .u8 x) rfl (.inr ⟨_, cap2, rfl, HN2.out⟩) (by simp) (fun u hu => by obtain ⟨z, _, rfl⟩ := List.mem_map.1 hu; rfl) (by unfold maxLen; omega) (by omega) hsz5 ?_; intro v6 w6 hr6 hg6 hat6; have HF6 : Hid (Fr0 w w6) := Lib.hid (Fr.grown HF5.out hg6 (fun j hj hlt => by have := (HE5.out.lt j hj).1; omega)); rw [← List.map_append] at hr6; have HR6 := Lib.hid hr6; clear hr6 hg6 hat6)
  go_ret
  obtain ⟨g, cp, rfl⟩ := own_some HR6.out (by omega)
  have hll : (tl ++ tr).length = tl.length + tr.length := List.length_append
  unfold PlPost
  rw [hll]
  refine ⟨g, cp, rfl, ?_, HF6.out⟩
  rw [hll]
  exact HR6.out

theorem ref12_derive {rs : List Rl} {tx : Nat → List Int} (hG : Gram rs tx) {a : Option Addr} {cap : Nat} : ∀ (m n : Nat), n < m → n < rs.length → ∀ w, RulesAt w a rs → (tx n).length ≤ 4096 →
    Calls Tryz.prog 113 #[.slice a rs.length cap, .int .i64 ((n : Int) + 1)] w (PlPost w (tx n))
  | 0, n, h, _, _, _, _ => by omega
  | m + 1, n, h, hn, w, hA, hl => by
    obtain ⟨b, off, rfl, lb, c0, c1, c2, c3, c4⟩ := hA n hn
    rcases hG.ok n hn with ⟨c, hr, ht⟩ | ⟨l, r, h1, h2, hr, ht⟩
    · rw [hr] at c0 c1 c2 c3 c4
      rw [ht]
      exact derive_letter hn hG.few lb c0 c1 c2 c3 c4
    · rw [hr] at c0 c1 c2 c3 c4
      rw [ht, List.length_append] at hl
      rw [ht]
      exact derive_pair hn hG.few lb c0 c1 c2 c3 c4 h1 h2 (hG.pos (r + 1) r (by omega) (by omega)) hl
        (Lib.hid fun W hW => ref12_derive hG m l (by omega) (by omega) W (hA.kept0 hW) (by omega))
        (Lib.hid fun W hW => ref12_derive hG m r (by omega) (by omega) W (hA.kept0 hW) (by omega))

end Go.Proofs.YtclpndigmidjkaaGreat

/- The walks of ref12.Refs and ref12.Expand over letters and pairs. -/
set_option linter.unusedSimpArgs false
set_option linter.unusedVariables false
namespace Go.Proofs.YtclpndigmidjkaaGreat
open Go.RowKit

set_option maxRecDepth 100000 in
set_option maxHeartbeats 1000000 in
theorem refs_letter (w : World) (c : Int) :
    Calls Tryz.prog 112 #[.agg #[.int .i64 1, .int .u8 c, .int .i64 0, .int .i64 0, .int .i64 0]] w fun e w' => e = .returned (.slice none 0 0) ∧ Fr0 w w' := by
  go_enter Tryz.func112, Tryz.ntmps112
  go_wp2_with fail
  go_ret
  exact ⟨rfl, (Fr0.refl w).alloc _⟩

set_option maxRecDepth 100000 in
set_option maxHeartbeats 1000000 in
theorem refs_pair (w : World) (l r : Int) :
    Calls Tryz.prog 112 #[.agg #[.int .i64 2, .int .u8 0, .int .i64 l, .int .i64 r, .int .i64 0]] w fun e w' => ∃ g, e = .returned (.slice (some ⟨g, 0, none⟩) 2 2) ∧ Fr0 w w' ∧ w'.cell? ⟨g, 0, none⟩ = some (.int .i64 l) ∧ w'.cell? ⟨g, 1, none⟩ = some (.int .i64 r) ∧ w.heap.size ≤ g ∧ g < w'.heap.size := by
  go_enter Tryz.func112, Tryz.ntmps112
  go_wp2_with fail
  go_ret
  have hb := alloc2_1 w (.cells #[.int .i64 2, .int .u8 0, .int .i64 l, .int .i64 r, .int .i64 0] 132 (0, 0)) (.cells #[.int .i64 l, .int .i64 r] 39 (0, 0))
  exact ⟨w.heap.size + 1, rfl, ((Fr0.refl w).alloc _).alloc _, (cell_of_block hb 0).trans rfl, (cell_of_block hb 1).trans rfl, Nat.le_succ _, lt_of_block hb⟩

/-- The lengths that Expand keeps. -/
def exD (tx : Nat → List Int) : Nat → Int
  | 0 => 0
  | k + 1 => min ((tx k).length : Int) 2001

theorem exD_bd (tx : Nat → List Int) (i : Nat) : 0 ≤ exD tx i ∧ exD tx i ≤ 2001 := by
  cases i with
  | zero => show (0 : Int) ≤ 0 ∧ (0 : Int) ≤ 2001; omega
  | succ k => show 0 ≤ min ((tx k).length : Int) 2001 ∧ min ((tx k).length : Int) 2001 ≤ 2001; omega

structure XpR (w wr : World) (n : Nat) (dp : Nat → Int) (db k : Nat) : Prop where
  fr : Fr0 w wr
  dl : wr.ownsRow w.heap.size 3 1 (.slice (some ⟨db, 0, none⟩) (n + 1) (n + 1)) (n + 1) (dLs dp n k)

theorem XpR.kept0 {w wr W : World} {n : Nat} {dp : Nat → Int} {db k : Nat} (h : XpR w wr n dp db k) (hf : Fr0 wr W) : XpR w W n dp db k := ⟨h.fr.trans hf, hf.owns h.dl⟩
theorem XpR.ge {w wr : World} {n : Nat} {dp : Nat → Int} {db k : Nat} (h : XpR w wr n dp db k) : w.heap.size ≤ db ∧ db < wr.heap.size := h.dl.lt db rfl
theorem XpR.cell {w wr : World} {n : Nat} {dp : Nat → Int} {db k : Nat} (h : XpR w wr n dp db k) (hk : k ≤ n) (i : Nat) (hi : i ≤ k) : wr.cell? ⟨db, i, none⟩ = some (.int .i64 (dp i)) := owns_cell h.dl i _ (dLs_at dp n k i hi hk)
theorem XpR.next {w wr : World} {n : Nat} {dp : Nat → Int} {db k : Nat} (h : XpR w wr n dp db k) (hk : k < n) : (∃ u, wr.cell? ⟨db, k + 1, none⟩ = some (.int .i64 u)) ∧ ∀ o, wr.frozen? ⟨db, o, none⟩ = false := by
  obtain ⟨c1, h1⟩ := owns_block h.dl rfl
  exact ⟨⟨_, owns_cell h.dl (k + 1) _ (by unfold dLs; rw [List.getElem?_map, List.getElem?_range (by omega)]; rfl)⟩, fun o => frozen_of_block h1 o⟩
theorem XpR.set {w wr : World} {n : Nat} {dp : Nat → Int} {db k : Nat} (h : XpR w wr n dp db k) (hk : k < n) {v : Int} (hv : dp (k + 1) = v) : XpR w (wr.setCell ⟨db, k + 1, none⟩ (.int .i64 v)) n dp db (k + 1) := by
  refine ⟨h.fr.setCell _ _ h.ge.1, ?_⟩
  rw [← dLs_set dp n k hk, hv]
  exact owns_set h.dl _ _

/-- What Expand leaves. -/
def XpPost (w : World) (t : List Int) (e : Ending) (w' : World) : Prop := (t.length ≤ 2000 ∧ ∃ v, e = .returned (.tuple #[v, .bool true]) ∧ OwnB w w' v t) ∨ (¬ t.length ≤ 2000 ∧ e = .returned (.tuple #[.slice none 0 0, .bool false]) ∧ Fr0 w w')

set_option maxRecDepth 100000 in
set_option maxHeartbeats 4000000 in
theorem ref12_Expand_some {w : World} {a : Option Addr} {cap n : Nat} {rs : List Rl} {tx : Nat → List Int} (hn : rs.length = n + 1) (hA : RulesAt w a rs) (hG : Gram rs tx) :
    Calls Tryz.prog 83 #[.slice a rs.length cap, .int .i64 2000] w (XpPost w (tx n)) := by
  obtain ⟨i0, hi0, hz0, hz1, hz2⟩ := info_parts info_int
  have hu : Tryz.prog.underlying 32 = some (.slice 3) := Tryz.underlying32
  have hfew := hG.few
  have b2 : i0.bytes * (rs.length + 1) ≤ 281474976710656 := by rw [hz2]; omega
  have b3 : rs.length + 1 ≤ maxLen := by unfold maxLen; omega
  have HA := Lib.hid hA
  have HG := Lib.hid hG
  have q0 : ((rs.length : Int) == 0) = false := beq_eq_false_iff_ne.2 (by omega)
  have HN := Lib.hid hn
  clear hA hG hn
  go_enter Tryz.func83, Tryz.ntmps83
  go_wp2_with (at_make; refine wpList_make_full _ rfl _ _ 32 rfl w.heap.size 3 i0 _ 1 hu hi0 hz0 hz1 .i64 .i64 _ _ (rs.length + 1) rfl rfl (by simp) (by simp) b2 b3 (Nat.le_refl _) ?_; intro w1 hown hgrow; rw [made_ints] at hown; have HO1 := Lib.hid hown; have HG1 := Lib.hid hgrow; have hsz1 : w.heap.size ≤ w1.heap.size := hgrow.size; clear hown hgrow)
  have H0 : Hid (XpR w w1 rs.length (exD tx) w.heap.size 0) := by
    refine ⟨Fr.grown (Fr0.refl w) HG1.out (fun k hk => by cases hk), ?_⟩
    rw [← dLs_zero (exD tx) rs.length rfl]
    exact HO1.out
  clear HO1 HG1 hsz1 b2 b3 hu hi0 hz0 hz1 hz2 q0
  obtain ⟨db, hdb⟩ : ∃ db, w.heap.size = db := ⟨_, rfl⟩
  rw [hdb] at H0 ⊢
  clear hdb
  go_loopw [7] (fun i wr => ∃ k : Nat, k ≤ rs.length ∧ i = .int .i64 k ∧ XpR w wr rs.length (exD tx) db k) (fun i _ => rs.length - (intOf i).toNat)
  case atStart => exact ⟨0, Nat.zero_le _, rfl, H0.out⟩
  case round =>
    clear H0
    obtain ⟨k, hk, rfl, hr⟩ := hrel
    by_cases hlt : k < rs.length
    · obtain ⟨b, off, rfl, lb, c0, c1, c2, c3, c4⟩ := (HA.out.kept0 hr.fr) k hlt
      have HR := Lib.hid hr
      have q1 : (0 : Int) ≤ (k : Int) := by omega
      have q2 : (k : Int) < (rs.length : Int) := by omega
      clear hr
      rcases HG.out.ok k hlt with ⟨c, h, ht⟩ | ⟨l, r, hl, hr, h, ht⟩
      · rw [h] at c0 c1 c2 c3 c4
        have HD : Hid (exD tx (k + 1) = 1) := by show min ((tx k).length : Int) 2001 = 1; rw [ht]; rfl
        have CR := Lib.hid (fun W => refs_letter W c)
        clear h ht
        go_wp2_with fail
        refine (CR.out _).mono ?_
        rintro e w2 ⟨rfl, f2⟩
        have HR2 := Lib.hid (HR.out.kept0 (((Fr0.refl wr).alloc _).trans f2))
        obtain ⟨k0, k1, k2, k3, k4, kl⟩ := cells5 (f2.kept (alloc_at wr (.cells #[.int .i64 1, .int .u8 c, .int .i64 0, .int .i64 0, .int .i64 0] 132 (0, 0)) _ rfl))
        obtain ⟨⟨u, hu⟩, hfz⟩ := HR2.out.next hlt
        obtain ⟨hg0, hg1⟩ := HR2.out.ge
        have HN2 := Lib.hid (HR2.out.set hlt HD.out)
        clear f2
        go_wp2_with fail
        go_loopw [10] (fun i W => i = .int .i64 0 ∧ W = w2) (fun _ _ => 0)
        case atStart => exact ⟨rfl, rfl⟩
        case round =>
          obtain ⟨rfl, rfl⟩ := hrel
          go_wp2_with fail
          exact ⟨⟨k + 1, by omega, by go_num, HN2.out⟩, by simp [intOf]; omega⟩
      · rw [h] at c0 c1 c2 c3 c4
        have hl2 := exD_bd tx (l + 1)
        have hr2 := exD_bd tx (r + 1)
        have HD : Hid (exD tx (k + 1) = min (exD tx (l + 1) + exD tx (r + 1)) 2001) := by
          show min ((tx k).length : Int) 2001 = min (min ((tx l).length : Int) 2001 + min ((tx r).length : Int) 2001) 2001
          rw [ht, List.length_append]
          omega
        obtain ⟨l', hl'⟩ : ∃ l' : Nat, l' = l + 1 := ⟨_, rfl⟩
        obtain ⟨r', hr'⟩ : ∃ r' : Nat, r' = r + 1 := ⟨_, rfl⟩
        have el : (l : Int) + 1 = (l' : Int) := by omega
        have er : (r : Int) + 1 = (r' : Int) := by omega
        rw [el] at c2
        rw [er] at c3
        rw [← hl'] at hl2
        rw [← hr'] at hr2
        rw [← hl', ← hr'] at HD
        have x1 : decide ((l' : Int) < 1) = false := decide_eq_false (by omega)
        have x2 : decide ((k : Int) < (l' : Int)) = false := decide_eq_false (by omega)
        have x3 : decide ((r' : Int) < 1) = false := decide_eq_false (by omega)
        have x4 : decide ((k : Int) < (r' : Int)) = false := decide_eq_false (by omega)
        have x5 : (0 : Int) ≤ (l' : Int) := by omega
        have x6 : (l' : Int) < (rs.length : Int) + 1 := by omega
        have x7 : (0 : Int) ≤ (r' : Int) := by omega
        have x8 : (r' : Int) < (rs.length : Int) + 1 := by omega
        have hlk : l' ≤ k := by omega
        have hrk : r' ≤ k := by omega
        have CR := Lib.hid (fun W => refs_pair W l' r')
        clear h ht el er hl' hr' hl hr
        go_wp2_with fail
        refine (CR.out _).mono ?_
        rintro e w2 ⟨g, rfl, f2, z0, z1, hgg, hgl⟩
        have HR2 := Lib.hid (HR.out.kept0 (((Fr0.refl wr).alloc _).trans f2))
        obtain ⟨k0, k1, k2, k3, k4, kl⟩ := cells5 (f2.kept (alloc_at wr (.cells #[.int .i64 2, .int .u8 0, .int .i64 l', .int .i64 r', .int .i64 0] 132 (0, 0)) _ rfl))
        obtain ⟨⟨u, hu⟩, hfz⟩ := HR2.out.next hlt
        obtain ⟨hg0, hg1⟩ := HR2.out.ge
        have hdl := HR2.out.cell hk l' hlk
        have hdr := HR2.out.cell hk r' hrk
        clear f2
        go_wp2_with fail
        go_loopw [10] (fun i W => ∃ j : Nat, j ≤ 2 ∧ i = .int .i64 j ∧ W = w2) (fun i _ => 2 - (intOf i).toNat)
        case atStart => exact ⟨0, by omega, rfl, rfl⟩
        case round =>
          obtain ⟨j, hj, rfl, rfl⟩ := hrel
          rcases (by omega : j = 0 ∨ j = 1 ∨ j = 2) with rfl | rfl | rfl
          · go_wp2_with fail
            go_roundw
            case rel => exact ⟨1, by omega, by go_num, trivial⟩
            case measure => simp [intOf]
          · go_wp2_with fail
            go_roundw
            case rel => exact ⟨2, by omega, by go_num, trivial⟩
            case measure => simp [intOf]
          · go_wp2_with fail
            go_quiet (fail)
            by_cases hm : exD tx l' + exD tx r' ≤ 2000
            · have y1 : decide ((2000 : Int) < exD tx l' + exD tx r') = false := decide_eq_false (by omega)
              have HV := Lib.hid (show exD tx (k + 1) = exD tx l' + exD tx r' from by rw [HD.out]; omega)
              have HN2 := Lib.hid (fun nq => (HR2.out.kept0 ((Fr0.refl _).drewN nq)).set hlt HV.out)
              generalize exD tx l' = dl at *
              generalize exD tx r' = dr at *
              go_wp2_with fail
              exact ⟨⟨k + 1, by omega, by go_num, HN2.out _⟩, by simp [intOf]; omega⟩
            · have y1 : decide ((2000 : Int) < exD tx l' + exD tx r') = true := decide_eq_true (by omega)
              have HV := Lib.hid (show exD tx (k + 1) = 2001 from by rw [HD.out]; omega)
              have HN2 := Lib.hid (fun nq => (HR2.out.kept0 ((Fr0.refl _).drewN nq)).set hlt HV.out)
              generalize exD tx l' = dl at *
              generalize exD tx r' = dr at *
              go_wp2_with fail
              exact ⟨⟨k + 1, by omega, by go_num, HN2.out _⟩, by simp [intOf]; omega⟩
    · obtain rfl : k = rs.length := by omega
      have hcl := hr.cell (Nat.le_refl _) rs.length (Nat.le_refl _)
      have F := Lib.hid hr.fr
      have q6 : decide ((rs.length : Int) < (rs.length : Int)) = false := decide_eq_false (by omega)
      have q7 : (rs.length : Int) < (rs.length : Int) + 1 := by omega
      obtain ⟨hg0, hg1⟩ := hr.ge
      have en := HN.out
      by_cases hm : (tx n).length ≤ 2000
      · have hcv : exD tx rs.length = ((tx n).length : Int) := by rw [en]; show min ((tx n).length : Int) 2001 = _; omega
        rw [hcv] at hcl
        have hm2 : decide (2000 < ((tx n).length : Int)) = false := decide_eq_false (by omega)
        have HP : Hid (∀ W, Fr0 w W → Calls Tryz.prog 113 #[.slice a rs.length cap, .int .i64 rs.length] W (PlPost W (tx n))) := by
          intro W hW
          have h := ref12_derive HG.out (cap := cap) (n + 1) n (by omega) (by omega) W (HA.out.kept0 hW) (by omega)
          rw [show ((n : Int) + 1) = (rs.length : Int) by omega] at h
          exact h
        clear HA HG HN en
        go_wp2_with fail
        refine (HP.out _ F.out).mono ?_
        rintro e w3 ⟨g, cp, rfl, hO⟩
        have HO := Lib.hid (show OwnB w w3 (.slice (some ⟨g, 0, none⟩) (tx n).length cp) (tx n) from ⟨owns_base hO.row F.out.size', F.out.trans hO.fr⟩)
        clear hO
        go_wp2_with fail
        go_ret2
        exact .inl ⟨hm, _, rfl, HO.out⟩
      · have hcv : exD tx rs.length = 2001 := by rw [en]; show min ((tx n).length : Int) 2001 = _; omega
        rw [hcv] at hcl
        clear HA HG HN en
        go_wp2_with fail
        go_ret2
        exact .inr ⟨hm, rfl, F.out⟩

set_option maxRecDepth 100000 in
set_option maxHeartbeats 1000000 in
theorem ref12_Expand_none (w : World) (a : Option Addr) (cap : Nat) :
    Calls Tryz.prog 83 #[.slice a 0 cap, .int .i64 2000] w (XpPost w []) := by
  go_enter Tryz.func83, Tryz.ntmps83
  go_wp2_with fail
  go_ret2
  exact .inl ⟨by simp, _, rfl, World.ownsRow_nil _ _ _ _, Fr0.refl w⟩

theorem ref12_Expand {w : World} {a : Option Addr} {cap : Nat} {rs : List Rl} {tx : Nat → List Int} (hA : RulesAt w a rs) (hG : Gram rs tx) :
    Calls Tryz.prog 83 #[.slice a rs.length cap, .int .i64 2000] w (XpPost w (lastT tx rs.length)) := by
  cases hN : rs.length with
  | zero => exact ref12_Expand_none w a cap
  | succ n =>
    have h := ref12_Expand_some (cap := cap) hN hA hG
    rw [hN] at h
    exact h

end Go.Proofs.YtclpndigmidjkaaGreat

/- The walk of law 36's plain. -/
set_option linter.unusedSimpArgs false
set_option linter.unusedVariables false
namespace Go.Proofs.YtclpndigmidjkaaGreat
open Go.RowKit

set_option maxRecDepth 100000 in
set_option maxHeartbeats 1000000 in
theorem law36_plain {B : Nat} {w : World} {p mb q : Nat} {most : Int} {L : List Ent} (hS : Sto B w p mb most L) (hO : SOk L) (hD : DOk L) (hBig : L.length ≤ 1000000) (hq : w.cell? ⟨q, 0, none⟩ = some (.pointer (some ⟨p, 0, none⟩))) (hql : q < w.heap.size) {id : Int} {t : List Int} {d : Int} (hb : BalZ L id t d) :
    Calls Tryz.prog 46 #[.pointer (some ⟨q, 0, none⟩), .int .i64 id] w (XpPost w t) := by
  have CE := Lib.hid (st_Export hS hD hBig id hb.known)
  have HG : Hid (∀ rs, ((id = 0 ∧ rs = []) ∨ (id ≠ 0 ∧ ∃ out, Outs L id out ∧ rs = expo L out)) → ∃ tx, Gram rs tx ∧ lastT tx rs.length = t) := by
    intro rs h
    rcases h with ⟨h1, rfl⟩ | ⟨h1, out, h2, rfl⟩
    · exact ⟨fun _ => [], ⟨fun i hi => by simp at hi, fun i hi => by simp at hi, by simp⟩, (hb.of0 h1).1.symm⟩
    · exact ⟨_, expo_gram hD hO hBig (hb.bal h1) h2, expo_last (hb.bal h1) h2⟩
  clear hS hO hD hb
  go_enter Tryz.func46, Tryz.ntmps46
  go_wp2_with fail
  refine CE.out.mono ?_
  rintro e w1 ⟨rs, v, rfl, hR, hc⟩
  obtain ⟨tx, hG, hT⟩ := HG.out rs hc
  obtain ⟨a, cap, rfl, hA⟩ := rules_of_own hR
  have CP := Lib.hid (ref12_Expand (cap := cap) hA hG)
  rw [hT] at CP
  have HF1 := Lib.hid hR.fr
  clear hc hG hT hA hR CE HG
  go_wp2_with fail
  refine CP.out.mono ?_
  rintro e w2 (⟨hl, u, rfl, hU⟩ | ⟨hl, rfl, hf⟩)
  · have HU := Lib.hid (show OwnB w w2 u t from ⟨owns_base hU.row HF1.out.size', HF1.out.trans hU.fr⟩)
    clear hU
    go_wp2_with fail
    go_ret2
    exact .inl ⟨hl, _, rfl, HU.out⟩
  · have HF := Lib.hid (HF1.out.trans hf)
    clear hf
    go_wp2_with fail
    go_ret2
    exact .inr ⟨hl, rfl, HF.out⟩

end Go.Proofs.YtclpndigmidjkaaGreat

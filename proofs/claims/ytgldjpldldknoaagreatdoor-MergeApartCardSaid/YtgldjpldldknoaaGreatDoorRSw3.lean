/- The walk of Parser.letters. -/
import Derived.Test.YtgldjpldldknoaaGreatDoorRKw5
set_option linter.unusedSimpArgs false
set_option linter.unusedVariables false
namespace Go.Proofs.YtgldjpldldknoaaGreatDoor
open Go.RowKit
theorem made_row {ST T : TypeId} {z : Value} (hT : RT ST T 1 8) (hz1 : z.cells = #[z]) (hinfo : (Tryz.prog.info? T).map (fun i => (i.zero, i.size, i.bytes)) = some (some z, 1, 8)) (n : Nat) (hn : n ≤ 1000000) (w : World) :
    (Instr.makeSlice ST (.int .i64 0) (.int .i64 (n : Int))).run Tryz.prog w = .ok (.slice (some ⟨w.heap.size, 0, none⟩) 0 n) (w.alloc (.cells (madeCells #[z] n) T)) := by
 obtain ⟨_, _, _, hu, _⟩ := hT
 obtain ⟨i, hi, hzz⟩ := Option.map_eq_some_iff.1 hinfo
 simp only [Prod.mk.injEq] at hzz
 obtain ⟨hz, hs, hb⟩ := hzz
 have hr := run_make (P := Tryz.prog) w ST T i z hu hi hz .i64 .i64 0 (n : Int) (by omega) (by omega) (by rw [hb]; omega) (by omega)
 rw [hs, hz1] at hr
 simpa using hr
theorem pre_made {T : TypeId} {k : IntKind} {base : Nat} {w : World} {b n : Nat} {cs : Array Value} (hb : base ≤ b) (hc : w.heap[b]? = some (.cells cs T (0, 0))) (hs : cs.size = n) (hn : n ≤ maxLen) : PreR T k base w (.slice (some ⟨b, 0, none⟩) 0 n) 0 [] :=
 ⟨_, n, rfl, Nat.le_refl _, rfl, .inr ⟨b, n, cs, rfl, hb, hc, Nat.zero_le _, hn, by rw [hs]; omega, by simp⟩⟩
theorem al3_0 (w : World) (a b c : Obj) : (((w.alloc a).alloc b).alloc c).drew.heap[w.heap.size]? = some a := by
 show (((w.alloc a).alloc b).alloc c).heap[w.heap.size]? = some a
 rw [alloc_lt _ _ _ (by simp; omega), alloc_lt _ _ _ (by simp)]
 exact alloc_at _ _ _ rfl
theorem al3_1 (w : World) (a b c : Obj) : (((w.alloc a).alloc b).alloc c).drew.heap[w.heap.size + 1]? = some b := by
 show (((w.alloc a).alloc b).alloc c).heap[w.heap.size + 1]? = some b
 rw [alloc_lt _ _ _ (by simp)]
 exact alloc_at _ _ _ (by simp)
theorem al3_2 (w : World) (a b c : Obj) : (((w.alloc a).alloc b).alloc c).drew.heap[w.heap.size + 1 + 1]? = some c := alloc_at _ _ _ (by simp)
theorem sq_made {base : Nat} {w : World} {rb bi bk n : Nat} (hn : n ≤ 1000000) (h1 : w.heap[bi]? = some (Obj.cells (madeCells #[.int .i64 0] n) 28 (0, 0))) (h2 : w.heap[bk]? = some (Obj.cells (madeCells #[.int .u64 0] n) 43 (0, 0)))
    (h3 : w.heap[rb]? = some (Obj.cells #[.slice (some ⟨bi, 0, none⟩) 0 n, .slice (some ⟨bk, 0, none⟩) 0 n] 164 (0, 0))) (b1 : base ≤ bi) (b2 : base ≤ bk) (b3 : base ≤ rb) : SqP base w rb (.slice (some ⟨bi, 0, none⟩) 0 n) (.slice (some ⟨bk, 0, none⟩) 0 n) 0 [] [] :=
 ⟨h3, pre_made b1 h1 (size_madeCells _ _) (by unfold maxLen; omega), pre_made b2 h2 (size_madeCells _ _) (by unfold maxLen; omega), rfl⟩
def SeqPost (B : Nat) (w : World) (pp tp p mb : Nat) (most : Int) (L' : List Ent) (ids : List Int) (e : Ending) (w' : World) : Prop :=
 ∃ T' iv kv, e = .returned (.tuple #[.agg #[iv, kv], .nilIface]) ∧ Pq B w' pp tp p mb most L' T' ∧ Kx B mb w w' ∧
  w'.ownsRow w.heap.size 28 1 iv ids.length (ids.map fun x => Value.int .i64 x) ∧ w'.ownsRow w.heap.size 43 1 kv ids.length ((ids.map (kkey L')).map fun x => Value.int .u64 x)
structure LtR (B : Nat) (w wr : World) (pp tp p mb : Nat) (most : Int) (L : List Ent) (bs : List Int) (R rb j : Nat) : Prop where
 ex : ∃ T iv kv, Pq B wr pp tp p mb most (letF L (bs.take j)).1 T ∧ SqP w.heap.size wr rb iv kv j (letF L (bs.take j)).2 ((letF L (bs.take j)).2.map (kkey (letF L (bs.take j)).1))
 kx : Kx B mb w wr
 rs : wr.heap[R]? = some (Obj.cells #[.slice none 0 0, .slice none 0 0] 164 (0, 0))
theorem putR_end (xs : List Int) (x : Int) : putR xs xs.length [x] = xs ++ [x] := by unfold putR; simp
theorem LtR.next {B : Nat} {w wr w2 w3 : World} {pp tp p mb : Nat} {most : Int} {L : List Ent} {bs : List Int} {R rb j : Nat} {T : List KRow} {iv kv : Value} (hS : SOk L) (hD : DOk L) (hU : Uq L) (hb : ∀ b ∈ bs, 0 ≤ b ∧ b < 256) (hj : j < bs.length)
    (hkx : Kx B mb w wr) (hx2 : Kx B mb wr w2) (rs : wr.heap[R]? = some (Obj.cells #[.slice none 0 0, .slice none 0 0] 164 (0, 0))) (hRrb : R ≠ rb) (hbr : w.heap.size ≤ rb)
    (hq : SqP w.heap.size w2 rb iv kv j (letF L (bs.take j)).2 ((letF L (bs.take j)).2.map (kkey (letF L (bs.take j)).1))) {e : Ending}
    (ha : AddPost w.heap.size B w2 pp tp p mb most (addL (letF L (bs.take j)).1 (letterEnt bs[j])) rb iv kv j (letF L (bs.take j)).2 ((letF L (bs.take j)).2.map (kkey (letF L (bs.take j)).1)) (addI (letF L (bs.take j)).1 (letterEnt bs[j])) e w3) :
    LtR B w w3 pp tp p mb most L bs R rb (j + 1) := by
 obtain ⟨T', iv', kv', _, hP3, hq3, hk3, _, _⟩ := ha
 have htk : bs.take (j + 1) = bs.take j ++ [bs[j]] := List.take_succ_eq_append_getElem hj
 obtain ⟨h1, h2, h3, h4⟩ := letF_ok (bs.take j) L hS hD hU (fun b hb' => hb b (List.mem_of_mem_take hb'))
 have hbj := hb bs[j] (List.getElem_mem _)
 obtain ⟨g1, g2, g3, g4, g5⟩ := letter_new h1.gr.sok h1.gr.dok h1.uq bs[j] hbj.1 hbj.2
 have hlen : (letF L (bs.take j)).2.length = j := by rw [h4, List.length_take]; omega
 obtain ⟨M, hM⟩ := g1.gr.ext
 have hkk : (letF L (bs.take j)).2.map (kkey (addL (letF L (bs.take j)).1 (letterEnt bs[j]))) = (letF L (bs.take j)).2.map (kkey (letF L (bs.take j)).1) := by
  have := g1.gr.dok
  rw [hM] at this ⊢
  exact kl_seq h1.gr.dok this _ (fun u hu => ⟨(h2 u hu).1, (h2 u hu).2.1⟩)
 obtain ⟨n1, n2, n3⟩ := hq.kne
 have hRi : ∀ k, iv.ownBlock = some k → k ≠ R := fun k hk e => by
  obtain ⟨_, _, cur, hc⟩ := hq.pi.blk hk
  rw [e] at hc
  exact ne_of_types hc (hx2.cells _ _ _ _ rs (by decide) id) (by decide) rfl
 have hRk : ∀ k, kv.ownBlock = some k → k ≠ R := fun k hk e => by
  obtain ⟨_, _, cur, hc⟩ := hq.pk.blk hk
  rw [e] at hc
  exact ne_of_types hc (hx2.cells _ _ _ _ rs (by decide) id) (by decide) rfl
 refine ⟨⟨T', iv', kv', ?_, ?_⟩, ?_, ?_⟩
 · rw [htk, letF_snoc]; exact hP3
 · rw [htk, letF_snoc]
   have e1 : putR (letF L (bs.take j)).2 j [addI (letF L (bs.take j)).1 (letterEnt bs[j])] = (letF L (bs.take j)).2 ++ [addI (letF L (bs.take j)).1 (letterEnt bs[j])] := by
    have := putR_end (letF L (bs.take j)).2 (addI (letF L (bs.take j)).1 (letterEnt bs[j]))
    rw [hlen] at this
    exact this
   have e2 : putR ((letF L (bs.take j)).2.map (kkey (letF L (bs.take j)).1)) j [kkey (addL (letF L (bs.take j)).1 (letterEnt bs[j])) (addI (letF L (bs.take j)).1 (letterEnt bs[j]))] = (letF L (bs.take j)).2.map (kkey (letF L (bs.take j)).1) ++ [kkey (addL (letF L (bs.take j)).1 (letterEnt bs[j])) (addI (letF L (bs.take j)).1 (letterEnt bs[j]))] := by
    have := putR_end ((letF L (bs.take j)).2.map (kkey (letF L (bs.take j)).1)) (kkey (addL (letF L (bs.take j)).1 (letterEnt bs[j])) (addI (letF L (bs.take j)).1 (letterEnt bs[j])))
    rw [List.length_map, hlen] at this
    exact this
   rw [e1, e2] at hq3
   dsimp only
   rw [List.map_append, hkk]
   exact hq3
 · exact (Ks.trans hkx hx2).next hk3 (fun i hi hs => by
     rcases hs with e | e | e
     · omega
     · have := (hq.pi.blk e).1; omega
     · have := (hq.pk.blk e).1; omega)
 · exact hk3.cells _ _ _ _ (hx2.cells _ _ _ _ rs (by decide) id) (by decide) (by
     rintro (e | e | e)
     · exact hRrb e
     · exact hRi R e rfl
     · exact hRk R e rfl)
theorem put2 {X : World} {k : Nat} {u0 u1 : Value} {t : TypeId} (h : X.heap[k]? = some (.cells #[u0, u1] t (0, 0))) (v0 v1 : Value) : ((X.setCell ⟨k, 0, none⟩ v0).setCell ⟨k, 1, none⟩ v1).heap[k]? = some (.cells #[v0, v1] t (0, 0)) := by
 rw [setCell_block (setCell_block h 0 v0) 1 v1]
 rfl
theorem seq_fin {B : Nat} {w wr : World} {pp tp p mb : Nat} {most : Int} {L : List Ent} {T : List KRow} {R rb : Nat} {iv kv u0 u1 : Value} {j : Nat} {ids ys : List Int} (hP : Pq B wr pp tp p mb most L T) (hq : SqP w.heap.size wr rb iv kv j ids ys) (hkx : Kx B mb w wr)
    (rs : wr.heap[R]? = some (Obj.cells #[u0, u1] 164 (0, 0))) (hRrb : R ≠ rb) (hB : B ≤ w.heap.size) (hR : w.heap.size = R) (hl : (ids.take j).length = j) (hy : ys.take j = (ids.take j).map (kkey L)) :
    SeqPost B w pp tp p mb most L (ids.take j) (.returned (.tuple #[.agg #[iv, kv], .nilIface])) ((wr.setCell ⟨R, 0, none⟩ iv).setCell ⟨R, 1, none⟩ kv) := by
 have hf : Fr (fun k => k = R) wr ((wr.setCell ⟨R, 0, none⟩ iv).setCell ⟨R, 1, none⟩ kv) := fr_set1 (fr_set1 (Fr.refl _ wr) 0 iv) 1 kv
 have hi := hq.pi.own
 have hk := hq.pk.own
 refine ⟨T, iv, kv, rfl, hP.keptO ((Ko.refl B wr).fr hf (fun i hi => by subst hi; exact ⟨by omega, _, _, _, rs, by decide⟩)), Ks.fr hkx hf (fun i h1 h2 => by omega), ?_, ?_⟩
 · rw [hl]
   exact hf.owns hi (fun k hk' e => by
    obtain ⟨_, _, cur, hc⟩ := hq.pi.blk hk'
    rw [e] at hc
    exact ne_of_types hc rs (by decide) rfl)
 · rw [hl, ← hy]
   exact hf.owns hk (fun k hk' e => by
    obtain ⟨_, _, cur, hc⟩ := hq.pk.blk hk'
    rw [e] at hc
    exact ne_of_types hc rs (by decide) rfl)
set_option maxRecDepth 100000 in
set_option maxHeartbeats 4000000 in
theorem sig_letters {B : Nat} {w : World} {pp tp p mb : Nat} {most : Int} {L : List Ent} {T : List KRow} {bb cap : Nat} {bs : List Int} (h : Pq B w pp tp p mb most L T) (hI : RowC w bb .u8 bs) (hbb : ∃ cs t f, w.heap[bb]? = some (Obj.cells cs t f) ∧ tyP t = false) (hb : ∀ b ∈ bs, 0 ≤ b ∧ b < 256) (h0 : bs ≠ []) (hm : ((L.length + bs.length : Nat) : Int) ≤ most) (hL : L.length + bs.length ≤ 500000) :
    Calls Tryz.prog 82 #[.pointer (some ⟨pp, 0, none⟩), .slice (some ⟨bb, 0, none⟩) bs.length cap] w (SeqPost B w pp tp p mb most (letF L bs).1 (letF L bs).2) := by
 have HP := Lib.hid h
 have HI := Lib.hid hI
 have HBB := Lib.hid hbb
 have hlb := hI.1
 have hn0 : 0 < bs.length := List.length_pos_iff.2 h0
 clear h hI hbb h0
 go_enter Tryz.func82, Tryz.ntmps82
 go_wp2_with fail
 have F0 : Fr0 w (w.alloc (.cells #[.slice none 0 0, .slice none 0 0] 164 (0, 0))) := (Fr0.refl w).alloc _
 have b0 := alloc_at w (.cells #[.slice none 0 0, .slice none 0 0] 164 (0, 0)) w.heap.size rfl
 generalize w.alloc (.cells #[.slice none 0 0, .slice none 0 0] 164 (0, 0)) = W1 at *
 obtain ⟨R, hR⟩ : ∃ R, w.heap.size = R := ⟨_, rfl⟩
 rw [hR] at b0 ⊢
 have HR := Lib.hid hR
 have HB0 := Lib.hid b0
 have HF0 := Lib.hid F0
 clear hR b0 F0
 have hn9 : bs.length ≤ 9223372036854775807 := by omega
 have q1 : (0 : Int) ≤ (bs.length : Int) := by omega
 go_cut [6] (fun v wx => ∃ rb iv kv, v = .pointer (some ⟨rb, 0, none⟩) ∧ SqP w.heap.size wx rb iv kv 0 [] [] ∧ Fr0 W1 wx ∧ W1.heap.size ≤ rb)
 case first =>
  have hs1 : w.heap.size ≤ W1.heap.size := Fr.size HF0.out
  have hn6 : bs.length ≤ 1000000 := by omega
  have hmk1 := made_row rt_id (by kernel_rfl) info_id bs.length (by omega)
  have hmk2 := made_row rt_u64 (by kernel_rfl) info_u64 bs.length (by omega)
  go_region_held3 (fun w' => True) (trivial) (fail)
  all_goals
   go_wp2_with fail
   go_meet
   first
   | exact ⟨_, _, _, rfl, sq_made (bi := W1.heap.size) (bk := W1.heap.size + 1) hn6 (al3_0 _ _ _ _) (al3_1 _ _ _ _) (al3_2 _ _ _ _) (by omega) (by omega) (by omega), ((((Fr0.refl W1).alloc _).alloc _).alloc _).drew, by omega⟩
   | exact ⟨_, _, _, rfl, sq_made (bi := W1.heap.size) (bk := W1.heap.size + 1 + 1) hn6 (al3_0 _ _ _ _) (al3_2 _ _ _ _) (al3_1 _ _ _ _) (by omega) (by omega) (by omega), ((((Fr0.refl W1).alloc _).alloc _).alloc _).drew, by omega⟩
   | exact ⟨_, _, _, rfl, sq_made (bi := W1.heap.size + 1) (bk := W1.heap.size) hn6 (al3_1 _ _ _ _) (al3_0 _ _ _ _) (al3_2 _ _ _ _) (by omega) (by omega) (by omega), ((((Fr0.refl W1).alloc _).alloc _).alloc _).drew, by omega⟩
   | exact ⟨_, _, _, rfl, sq_made (bi := W1.heap.size + 1) (bk := W1.heap.size + 1 + 1) hn6 (al3_1 _ _ _ _) (al3_2 _ _ _ _) (al3_0 _ _ _ _) (by omega) (by omega) (by omega), ((((Fr0.refl W1).alloc _).alloc _).alloc _).drew, by omega⟩
   | exact ⟨_, _, _, rfl, sq_made (bi := W1.heap.size + 1 + 1) (bk := W1.heap.size) hn6 (al3_2 _ _ _ _) (al3_0 _ _ _ _) (al3_1 _ _ _ _) (by omega) (by omega) (by omega), ((((Fr0.refl W1).alloc _).alloc _).alloc _).drew, by omega⟩
   | exact ⟨_, _, _, rfl, sq_made (bi := W1.heap.size + 1 + 1) (bk := W1.heap.size + 1) hn6 (al3_2 _ _ _ _) (al3_1 _ _ _ _) (al3_0 _ _ _ _) (by omega) (by omega) (by omega), ((((Fr0.refl W1).alloc _).alloc _).alloc _).drew, by omega⟩
 case rest =>
  obtain ⟨rb, iv, kv, rfl, hsq, hfw, hrb⟩ := hcut
  have F2 : Fr0 w wc := HF0.out.trans hfw
  have hRlt := lt_of_block HB0.out
  have H0 : Hid (LtR B w wc pp tp p mb most L bs R rb 0) := ⟨⟨T, iv, kv, HP.out.kept0 F2, hsq⟩, Ks.of0 F2, hfw.kept HB0.out⟩
  have hrb2 : w.heap.size ≤ rb := by have := Fr.size HF0.out; omega
  have hRrb : R ≠ rb := by omega
  have HB : Hid (B ≤ w.heap.size) := HP.out.base
  clear hsq hfw F2 HB0 HF0 hrb q1 hRlt
  go_wp2_with fail
  go_loopg [21] bs.length (fun gk i wr => ∃ j : Nat, i = .int .i64 j ∧ j + gk = bs.length ∧ LtR B w wr pp tp p mb most L bs R rb j)
  case atStart => exact ⟨0, rfl, by omega, H0.out⟩
  case round =>
   clear H0
   obtain ⟨j, rfl, hj, hr⟩ := hrel
   obtain ⟨⟨T1, iv, kv, hP1, hq1⟩, hkx, hrs⟩ := hr
   have q3 : (0 : Int) ≤ (j : Int) := by omega
   by_cases hlt : j < bs.length
   · obtain ⟨cs, ty, fr, hc, hty⟩ := HBB.out
     have hI1 := HI.out.of hkx.size (by rw [hkx.cells _ _ _ _ hc hty id, hc])
     have hx := hI1.2 j hlt
     have lbb := hI1.1
     have hbj := hb bs[j] (List.getElem_mem _)
     obtain ⟨h1, h2, h3, h4⟩ := letF_ok (bs.take j) L HP.out.sok HP.out.dok HP.out.uq (fun b hb' => hb b (List.mem_of_mem_take hb'))
     have hll := h1.gr.len
     rw [List.length_take] at hll
     have C1 := Lib.hid (pq_Letter hP1 bs[j] hbj.1 hbj.2 (by omega) (by omega))
     obtain ⟨c0, c1, lp⟩ := hP1.front
     have hln : (letF L (bs.take j)).2.length = j := by rw [h4, List.length_take]; omega
     have C2 := Lib.hid (fun w2 T2 (hP2 : Pq B w2 pp tp p mb most (addL (letF L (bs.take j)).1 (letterEnt bs[j])) T2) (hx2 : Kx B mb wr w2) => sig_add hP2 (hq1.keptX hx2) HB.out (Nat.le_trans hkx.size hx2.size) (by have := HB.out; omega) (by rw [hln]; omega) (addI (letF L (bs.take j)).1 (letterEnt bs[j])) (addI_known _ _).1 (addI_known _ _).2)
     have HN := Lib.hid (fun w2 w3 e (hx2 : Kx B mb wr w2) => @LtR.next B w wr w2 w3 pp tp p mb most L bs R rb j T1 iv kv HP.out.sok HP.out.dok HP.out.uq hb hlt hkx hx2 hrs hRrb hrb2 (hq1.keptX hx2) e)
     have q4 : (j : Int) < (bs.length : Int) := by omega
     generalize addI (letF L (bs.take j)).1 (letterEnt bs[j]) = id at *
     generalize bs[j] = b at *
     clear hP1 hq1 hkx hrs hI1 h1 h2 h3 h4 hll hln hbj hc
     go_wp2_with fail
     refine C1.out.mono ?_
     rintro e w2 ⟨rfl, hP2, hx2⟩
     have C3 := Lib.hid (C2.out w2 T1 hP2 hx2)
     have HN2 := Lib.hid (fun w3 e => HN.out w2 w3 e hx2)
     clear C1 C2 HN hP2 hx2
     go_wp2_with fail
     refine C3.out.mono ?_
     rintro e w3 ha
     have HN3 := Lib.hid (HN2.out _ _ ha)
     obtain ⟨T3, iv3, kv3, rfl, _, hq3, hk3, _, _⟩ := ha
     clear C3 HN2 hq3 hk3
     go_wp2_with fail
     go_roundg (gk - 1)
     case measure => omega
     case rel => exact ⟨j + 1, by go_num, by omega, HN3.out⟩
   · obtain rfl : j = bs.length := by omega
     rw [List.take_of_length_le (Nat.le_refl _)] at hP1 hq1
     have hll := (letF_ok bs L HP.out.sok HP.out.dok HP.out.uq hb).2.2.2
     have htl : (letF L bs).2.take bs.length = (letF L bs).2 := List.take_of_length_le (by omega)
     have hfin := Lib.hid (seq_fin hP1 hq1 hkx hrs hRrb HB.out HR.out (by rw [htl]; exact hll) (by rw [← List.map_take]))
     rw [htl] at hfin
     obtain ⟨ia, ic, rfl, _, _⟩ := hq1.pi
     obtain ⟨ka, kc, rfl, _, _⟩ := hq1.pk
     obtain ⟨d0, d1, df, ld⟩ := cells2 hq1.box
     obtain ⟨e0, e1, ef, le⟩ := cells2 hrs
     obtain ⟨o0, o1, _, _⟩ := cells2 (put2 hrs (.slice ia bs.length ic) (.slice ka bs.length kc))
     have q4 : decide ((bs.length : Int) < (bs.length : Int)) = false := decide_eq_false (by omega)
     clear hP1 hq1 hkx hrs
     go_wp2_with fail
     exact bodyPost_ret (v := .tuple #[.agg #[.slice ia bs.length ic, .slice ka bs.length kc], .nilIface]) (by simp [results, Tryz.results82, go_sem, o0, o1]) rfl hfin.out
end Go.Proofs.YtgldjpldldknoaaGreatDoor

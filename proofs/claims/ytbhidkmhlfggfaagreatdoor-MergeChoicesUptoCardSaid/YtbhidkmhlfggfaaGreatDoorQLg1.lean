/- The walk of evergreenlaw43.begun. -/
import Derived.Test.YtbhidkmhlfggfaaGreatDoorQMr5
import Derived.Test.YtbhidkmhlfggfaaGreatDoorQRch1
import Derived.Lib.SlBytesConst
import Derived.Test.YtbhidkmhlfggfaaGreatDoorQPx5
set_option linter.unusedSimpArgs false
set_option linter.unusedVariables false
namespace Go.Proofs.YtbhidkmhlfggfaaGreatDoor
open Go.RowKit
def abc8 : List Int := [97, 98, 99, 100, 101, 102, 103, 104]
def psX : List PS := [⟨1, 1, ⟨#[88]⟩⟩]
def psY : List PS := [⟨2, 0, ⟨#[89]⟩⟩]
theorem bytes_abc8 (w : World) (f : Nat × Nat) : BytesAt (w.alloc (.cells #[.int .u8 97, .int .u8 98, .int .u8 99, .int .u8 100, .int .u8 101, .int .u8 102, .int .u8 103, .int .u8 104] 5 f)) w.heap.size 0 abc8 := by
 refine ⟨⟨_, _, alloc_at _ _ _ rfl, fun i hi => ?_⟩, fun x hx => ?_⟩
 · match i, hi with
   | 0, _ => rfl
   | 1, _ => rfl
   | 2, _ => rfl
   | 3, _ => rfl
   | 4, _ => rfl
   | 5, _ => rfl
   | 6, _ => rfl
   | 7, _ => rfl
 · simp only [abc8, List.mem_cons, List.not_mem_nil, or_false] at hx
   omega
theorem rg_one (B : Nat) (w : World) (x : PS) : RG PS.vals 3 B (w.alloc (.cells #[.int .i64 x.at_, .int .i64 x.n, .string x.s] 62 (0, 0))) (some ⟨w.heap.size, 0, none⟩) [x] := by
 have hb := alloc_at w (.cells #[.int .i64 x.at_, .int .i64 x.n, .string x.s] 62 (0, 0)) _ rfl
 intro i hi
 refine ⟨_, 0, rfl, lt_of_block hb, .inr ⟨_, _, _, hb, by decide, by decide⟩, fun j u hj => ?_⟩
 rw [cell_of_block hb]
 match i, hi with
 | 0, _ =>
  match j with
  | 0 => exact hj
  | 1 => exact hj
  | 2 => exact hj
  | j + 3 => simp [PS.vals] at hj
theorem dvd_fixed : dvdG PC.at_ PC.n (psX.map PS.pc) (psY.map PS.pc) = [⟨1, 2, psX.map PS.pc, psY.map PS.pc⟩] := by
 unfold dvdG
 have e : mrgS PC.at_ (psX.map PS.pc) (psY.map PS.pc) = [((⟨1, 1, [88]⟩ : PC), true), ((⟨2, 0, [89]⟩ : PC), false)] := by
  show mrgS PC.at_ [(⟨1, 1, [88]⟩ : PC)] [(⟨2, 0, [89]⟩ : PC)] = _
  rw [mrgS, if_pos (by decide), mrgS]
  rfl
 rw [e]
 rfl
theorem mg_fixed : mgO abc8 [⟨1, 2, psX.map PS.pc, psY.map PS.pc⟩] = [] ∧ mgC abc8 [⟨1, 2, psX.map PS.pc, psY.map PS.pc⟩] = [⟨1, 1, [88], [98, 89]⟩] := by
 have h : isC abc8 ⟨1, 2, psX.map PS.pc, psY.map PS.pc⟩ = true := by
  unfold isC
  have e1 : sdl abc8 ⟨1, 2, psX.map PS.pc, psY.map PS.pc⟩ = [88] := rfl
  have e2 : sdr abc8 ⟨1, 2, psX.map PS.pc, psY.map PS.pc⟩ = [98, 89] := rfl
  rw [e1, e2]
  simp [psX, psY]
 constructor
 · unfold mgO
   rw [List.filter_cons_of_neg (by simp [h])]
   rfl
 · unfold mgC
   rw [List.filter_cons_of_pos (by simp [h])]
   rfl
def BgPost (w : World) (e : Ending) (w' : World) : Prop :=
 ∃ mp kb pp tp p mb L, e = .returned (.tuple #[.pointer (some ⟨mp, 0, none⟩), .pointer (some ⟨p, 0, none⟩), .bool true]) ∧ Me w.heap.size w' mp kb pp tp p mb 1048576 L ∧ L.length ≤ 10000 ∧ Fr0 w w' ∧ w.heap.size ≤ kb
theorem Kk.all0 {mb kb : Nat} {w w1 w' : World} (h0 : Fr0 w w1) (h : Kk w.heap.size mb kb w1 w') (hk : w.heap.size ≤ kb) : Fr0 w w' :=
 ⟨h.os.trans h0.os, h.tape.trans h0.tape, h.output.trans h0.output, Nat.le_trans h0.size h.size, fun k hk2 _ => (h.low k hk2 (Nat.lt_of_lt_of_le hk2 h0.size) (fun e => by omega)).trans (h0.block k hk2 id)⟩
theorem own_cap {w : World} {base : Nat} {e : TypeId} {size n m cap : Nat} {a : Option Addr} {xs : List Value} (h : w.ownsRow base e size (.slice a n cap) m xs) : m ≤ cap := by
 rcases h.2 with ⟨h1, h2⟩ | ⟨g, c, cur, h1, _, _, h3, _⟩
 · simp only [Value.slice.injEq] at h1; omega
 · simp only [Value.slice.injEq] at h1; omega
theorem own_rg {w : World} {base : Nat} {v : Value} {cs : List Chg} (h : w.ownsRow base 75 3 v cs.length (cs.flatMap Chg.vals)) (B : Nat) : ∃ a cap, v = .slice a cs.length cap ∧ RG Chg.vals 3 B w a cs ∧ cs.length ≤ cap := by
 obtain ⟨a, cap, rfl, hr⟩ := rg_of_own (B := B) (vals := Chg.vals) (size := 3) (fun _ _ => rfl) h (by decide) (by decide)
 exact ⟨a, cap, rfl, hr, own_cap h⟩
theorem lst12 : 600 < lst 13 := by decide
set_option maxRecDepth 100000 in
set_option maxHeartbeats 4000000 in
theorem law43_begun {w : World} (hdeb : Deb w.heap.size w) : Calls Tryz.prog 5 #[] w (BgPost w) := by
 have kc : ∀ (w : World) (C : Array Value) (n c : Nat), (convert 58 58 (.slice (some ⟨w.heap.size, 0, none⟩) n c)).run Tryz.prog (w.alloc (.cells C 5 (0, 0))) = .ok (.slice (some ⟨w.heap.size, 0, none⟩) n c) (w.alloc (.cells C 5 (C.size, C.size + 1))) :=
  fun (w : World) (C : Array Value) (n c : Nat) => Lib.run_convert_bytes_const (P := Tryz.prog) w 58 5 C n c Tryz.underlying58 Tryz.underlying5
 have HDB := Lib.hid hdeb
 clear hdeb
 go_enter Tryz.func5, Tryz.ntmps5
 go_wp2_with fail
 refine (st_New w).mono ?_
 rintro e w1 ⟨rfl, f1, hst, hsz⟩
 have hS1 : Sto w.heap.size w1 (w.heap.size + 1) w.heap.size 1048576 [] := ⟨_, hst, by omega, by omega, fun k hk => by cases hk⟩
 have C1 := Lib.hid (sig_New hS1 SOk.nil DOk.nil Uq.nil (Fr.size f1) (HDB.out.low (fun k hk hk2 => f1.block k hk2 id)) (by simp))
 have HF1 := Lib.hid f1
 clear hst hsz hS1 f1
 go_wp2_with fail
 refine C1.out.mono ?_
 rintro e w2 ⟨pp, tp, rfl, hp2, f2⟩
 have CN := Lib.hid (cn_New hp2)
 have HF2 := Lib.hid (HF1.out.trans f2)
 clear hp2 f2 C1 HF1
 go_wp2_with fail
 refine CN.out.mono ?_
 rintro e w3 ⟨mp, kb, rfl, hm3, f3, hkb, hkm⟩
 have HM3 := Lib.hid hm3
 have HF3 := Lib.hid (HF2.out.trans f3)
 have hkw : w.heap.size ≤ kb := Nat.le_trans HF2.out.size hkb
 obtain ⟨p, hp⟩ : ∃ p, w.heap.size + 1 = p := ⟨_, rfl⟩
 obtain ⟨mb, hmb⟩ : ∃ mb, w.heap.size = mb := ⟨_, rfl⟩
 rw [hp] at HM3 ⊢
 have HMB := Lib.hid hmb
 conv at HM3 => rw [hmb]
 clear hm3 f3 CN HF2 hp hkb hkm hmb
 go_wp2_with fail
 have hr3 : Room mb w3 p mb 1048576 [] 16 := HM3.out.room (by simp) (by simp)
 have CT := Lib.hid (sto_TextN (bs := abc8) (n := 8) rfl (hr3.kept0 ((Fr0.refl w3).alloc (.cells #[.int .u8 97, .int .u8 98, .int .u8 99, .int .u8 100, .int .u8 101, .int .u8 102, .int .u8 103, .int .u8 104] 5 (8, 9)))) _ 0 8 (bytes_abc8 w3 (8, 9)) (by omega) (by omega) (by omega))
 clear hr3
 refine CT.out.mono ?_
 rintro e w4 ⟨L4, z, dz, kz, rfl, hS4, hK4, g4, bz, hz⟩
 have hl4 : L4.length ≤ 16 := by have := g4.len; simp at this; omega
 have HM4 := Lib.hid ((HM3.out.kept0 ((Fr0.refl w3).alloc _)).made hS4 hK4 g4 (by omega))
 have HF4 : Hid (Fr0 w w4) := Kk.all0 (mb := mb) (kb := kb) (HF3.out.alloc _) (by rw [HMB.out]; exact Kk.ofK hK4) hkw
 have HZ4 := Lib.hid bz
 clear hS4 hK4 g4 bz hz CT HM3 HF3
 have hr4 : Room mb w4 p mb 1048576 L4 4 := HM4.out.room (by omega) (by omega)
 have CP := Lib.hid (law37_To (ps := psX) (cap := 1) ((hr4.less (m := 2) (by omega)).kept0 ((Fr0.refl w4).alloc (.cells #[.int .i64 1, .int .i64 1, .string ⟨#[88]⟩] 62 (0, 0)))) (rg_one mb w4 ⟨1, 1, ⟨#[88]⟩⟩) (by simp [psX]) (fun c hc => by simp only [psX, List.mem_singleton] at hc; subst hc; decide))
 clear hr4
 go_wp2_with fail
 refine CP.out.mono ?_
 rintro e w5 ⟨L5, v5, cs, k5, rfl, hS5, hK5, g5, hk5, ho5, hp5⟩
 have hk5' : k5 ≤ 2 := hk5
 have hl5 : L5.length ≤ 18 := by have := g5.len; omega
 have HD4 := Lib.hid HM4.out.dok
 have HM5 := Lib.hid ((HM4.out.kept0 ((Fr0.refl w4).alloc _)).made hS5 hK5 g5 (by omega))
 have HF5 : Hid (Fr0 w w5) := Kk.all0 (mb := mb) (kb := kb) (HF4.out.alloc _) (by rw [HMB.out]; exact Kk.ofK hK5) hkw
 have HZ5 := Lib.hid (g5.balz HD4.out HZ4.out)
 have HO5 := Lib.hid ho5
 have HP5 := Lib.hid hp5
 clear hS5 hK5 g5 hk5 hk5' ho5 hp5 CP HM4 HF4 HZ4 HD4
 have hr5 : Room mb w5 p mb 1048576 L5 4 := HM5.out.room (by omega) (by omega)
 have CP := Lib.hid (law37_To (ps := psY) (cap := 1) ((hr5.less (m := 2) (by omega)).kept0 ((Fr0.refl w5).alloc (.cells #[.int .i64 2, .int .i64 0, .string ⟨#[89]⟩] 62 (0, 0)))) (rg_one mb w5 ⟨2, 0, ⟨#[89]⟩⟩) (by simp [psY]) (fun c hc => by simp only [psY, List.mem_singleton] at hc; subst hc; decide))
 clear hr5
 go_wp2_with fail
 refine CP.out.mono ?_
 rintro e w6 ⟨L6, v6, ds, k6, rfl, hS6, hK6, g6, hk6, ho6, hp6⟩
 have hk6' : k6 ≤ 2 := hk6
 have hl6 : L6.length ≤ 20 := by have := g6.len; omega
 have HD5 := Lib.hid HM5.out.dok
 have hm6 := (HM5.out.kept0 ((Fr0.refl w5).alloc _)).made hS6 hK6 g6 (by omega)
 have HF6 : Hid (Fr0 w w6) := Kk.all0 (mb := mb) (kb := kb) (HF5.out.alloc _) (by rw [HMB.out]; exact Kk.ofK hK6) hkw
 have hz6 := g6.balz HD5.out HZ5.out
 have ho56 := hK6.owns (((Fr0.refl w5).alloc _).owns HO5.out) (by decide) (by decide)
 have hp56 := HP5.out.more g6 HD5.out
 obtain ⟨a5, c5, rfl, ra5, hc5⟩ := own_rg ho56 mb
 obtain ⟨a6, c6, rfl, ra6, hc6⟩ := own_rg ho6 mb
 have hlc : cs.length = 1 := hp56.len
 have hld : ds.length = 1 := hp6.len
 have hT : Two2 mb w6 L6 z abc8 dz a5 a6 c5 c6 cs ds (psX.map PS.pc) (psY.map PS.pc) := ⟨hz6, ra5, ra6, hc5, hc6, hp56, hp6, by decide, by decide, by rw [hlc, hld]; decide⟩
 have CM := mr_merge (NM := 2828) 12 hm6 hT lst12 (by rw [hlc, hld]) (by omega) (by omega)
 rw [dvd_fixed] at CM
 have CO := mr_Of (by simp) (by intro h hh; rw [List.mem_singleton.1 hh]; exact .inl (by simp [psX])) (by intro h hh; rw [List.mem_singleton.1 hh]; decide) CM
 have HO := Lib.hid CO
 clear hS6 hK6 g6 hk6 hk6' ho6 hp6 CP HM5 HF5 HZ5 HD5 HO5 HP5 hm6 hz6 ho56 hp56 ra5 ra6 hc5 hc6 hT CM CO hlc hld
 go_wp2_with fail
 refine HO.out.mono ?_
 rintro e w7 ⟨L7, v1, v2, rs, fs, rfl, hm7, hk7, g7, o1, o2, hp7, ha7⟩
 rw [mg_fixed.1] at hp7
 rw [mg_fixed.2] at ha7
 obtain ⟨q1, d1, rfl⟩ := owns_form o1
 obtain ⟨q2, d2, rfl⟩ := owns_form o2
 have hr2 := owns_rd (vals := Cf.vals) (size := 4) (B := 0) (fun _ _ => rfl) o2 (by decide) (by decide)
 have hl0 : rs.length = 0 := hp7.len
 have hl1 : fs.length = 1 := ha7.len
 rw [hl0, hl1]
 clear hl0 hl1 o1 o2
 match rs, fs, hp7, ha7 with
 | [], [f], _, ha7 =>
  obtain ⟨b7, o7, rfl, lb7, _, hc7⟩ := hr2 0 (by simp)
  have e0 := hc7 0 _ rfl
  have e1 := hc7 1 _ rfl
  have ea : f.at_ = 1 := ha7.1.at_
  have en : f.n = 1 := ha7.1.n
  simp only [List.getElem_cons_zero, Nat.zero_mul, Nat.add_zero] at e0 e1
  rw [ea] at e0
  rw [en] at e1
  have hl7 : L7.length ≤ 10000 := by have := g7.gr.len; omega
  have HF7 : Hid (Fr0 w w7) := Kk.all0 HF6.out (by rw [HMB.out]; exact hk7) hkw
  have HX : Hid (∀ W, Fr0 w7 W → BgPost w (.returned (.tuple #[.pointer (some ⟨mp, 0, none⟩), .pointer (some ⟨p, 0, none⟩), .bool true])) W) := fun W hW => ⟨mp, kb, pp, tp, p, mb, L7, rfl, by rw [HMB.out]; exact hm7.kept0 hW, hl7, HF7.out.trans hW, hkw⟩
  clear hm7 hk7 g7 hp7 ha7 hr2 hc7 hl7 HF7 HF6 HO HMB hkw hl6 hl5 hl4 ea en
  go_upto_region 9 with fail
  go_quiet (fail)
  go_wp2_with fail
  go_ret3
  exact HX.out _ (by first | exact Fr0.refl _ | exact (Fr0.refl _).drewN _ | exact (Fr0.refl _).drew)
end Go.Proofs.YtbhidkmhlfggfaaGreatDoor
/- The walk of evergreenlaw43.made. -/
set_option linter.unusedSimpArgs false
set_option linter.unusedVariables false
namespace Go.Proofs.YtbhidkmhlfggfaaGreatDoor
open Go.RowKit
structure MdR (B : Nat) (w w' : World) (p mb : Nat) (most : Int) (L L' : List Ent) (t : List Int) (ps qs : List PC) (id d : Int) (va vb : Option Addr) (ca cb : Nat) (cs ds : List Chg) (k : Nat) : Prop where
 st : Sto B w' p mb most L'
 kp : Kp B mb w w'
 gr : Grows L L' k
 le : k ≤ 2 * (t.length + insP ps + insP qs)
 text : BalZ L' id t d
 oa : w'.ownsRow w.heap.size 75 3 (.slice va cs.length ca) cs.length (cs.flatMap Chg.vals)
 ob : w'.ownsRow w.heap.size 75 3 (.slice vb ds.length cb) ds.length (ds.flatMap Chg.vals)
 pa : PChg L' cs ps
 pb : PChg L' ds qs
def MdPost (B : Nat) (w : World) (p mb : Nat) (most : Int) (L : List Ent) (t : List Int) (ps qs : List PC) (e : Ending) (w' : World) : Prop :=
 ∃ L' id d va vb ca cb cs ds k, e = .returned (.tuple #[.int .i64 id, .slice va cs.length ca, .slice vb ds.length cb, .bool true]) ∧ MdR B w w' p mb most L L' t ps qs id d va vb ca cb cs ds k
theorem MdR.kept0 {B : Nat} {w w' W : World} {p mb : Nat} {most : Int} {L L' : List Ent} {t : List Int} {ps qs : List PC} {id d : Int} {va vb : Option Addr} {ca cb : Nat} {cs ds : List Chg} {k : Nat} (h : MdR B w w' p mb most L L' t ps qs id d va vb ca cb cs ds k) (hf : Fr0 w' W) : MdR B w W p mb most L L' t ps qs id d va vb ca cb cs ds k :=
 ⟨h.st.kept0 hf, h.kp.trans (Kp.of0 hf), h.gr, h.le, h.text, hf.owns h.oa, hf.owns h.ob, h.pa, h.pb⟩
set_option maxRecDepth 100000 in
set_option maxHeartbeats 4000000 in
theorem law43_made {B : Nat} {w : World} {p mb : Nat} {most : Int} {L : List Ent} {s : ByteArray} {a b : Option Addr} {ka kb N : Nat} {ps qs : List PS} (hR : Room B w p mb most L N) (hN : 2 * (s.size + insP (ps.map PS.pc) + insP (qs.map PS.pc)) ≤ N) (hA : RG PS.vals 3 B w a ps) (hB : RG PS.vals 3 B w b qs) (hs : s.size ≤ 60000) (hl1 : ps.length ≤ 1000000) (hl2 : qs.length ≤ 1000000) (h3 : ∀ c ∈ ps, c.s.size ≤ 65536) (h4 : ∀ c ∈ qs, c.s.size ≤ 65536) :
    Calls Tryz.prog 7 #[.pointer (some ⟨p, 0, none⟩), .string s, .slice a ps.length ka, .slice b qs.length kb] w (MdPost B w p mb most L (sbs s) (ps.map PS.pc) (qs.map PS.pc)) := by
 obtain ⟨tc, tf, hconv, ht1, ht2⟩ := conv_bytes w s
 have ht3 := ht2 (by unfold maxLen; omega)
 unfold maxLen at ht3
 have F1 : Fr0 w (w.alloc (.cells (bytesRow s tc) 5 tf)).drew := ((Fr0.refl w).alloc _).drew
 have CT := Lib.hid (sto_TextN (sbs_len s) ((hR.less (m := 2 * s.size) (by omega)).kept0 F1) _ 0 tc (bytes_convH w _ rfl s tc tf) (by omega) ht1 ht3)
 have HF1 := Lib.hid F1
 have HR := Lib.hid hR
 have HA := Lib.hid hA
 have HB := Lib.hid hB
 have H3 := Lib.hid h3
 have H4 := Lib.hid h4
 generalize hi1 : insP (ps.map PS.pc) = n1 at *
 generalize hi2 : insP (qs.map PS.pc) = n2 at *
 have HI1 := Lib.hid hi1
 have HI2 := Lib.hid hi2
 clear hR hA hB h3 h4 ht1 ht2 ht3 F1 hi1 hi2
 go_enter Tryz.func7, Tryz.ntmps7
 go_wp2_with fail
 refine CT.out.mono ?_
 rintro e w1 ⟨L1, id, d, k1, rfl, hS1, hK1, g1, b1, hk1⟩
 have hKK1 := (Kp.of0 HF1.out).trans hK1
 have hr1 : Room B w1 p mb most L1 (2 * (n1 + n2)) := HR.out.next (k := 2 * (n1 + n2)) hS1 hKK1 g1 (by omega)
 have CO := Lib.hid (law37_To (cap := ka) (hr1.less (m := 2 * insP (ps.map PS.pc)) (by rw [HI1.out]; omega)) (HA.out.keptK hKK1) hl1 H3.out)
 have HK1 := Lib.hid hKK1
 have HR1 := Lib.hid hr1
 have HG1 := Lib.hid g1
 have HT1 := Lib.hid b1
 clear hconv CT hS1 hK1 hKK1 g1 b1 hr1 HR HF1
 go_wp2_with fail
 refine CO.out.mono ?_
 rintro e w2 ⟨L2, v2, cs, k2, rfl, hS2, hK2, g2, hk2, ho2, hp2⟩
 rw [HI1.out] at hk2
 have hKK2 := HK1.out.trans hK2
 have hr2 : Room B w2 p mb most L2 (2 * n2) := HR1.out.next (k := 2 * n2) hS2 hK2 g2 (by omega)
 have CQ := Lib.hid (law37_To (cap := kb) (hr2.less (m := 2 * insP (qs.map PS.pc)) (by rw [HI2.out]; omega)) (HB.out.keptK hKK2) hl2 H4.out)
 have hb2 := g2.balz HR1.out.dok HT1.out
 have hg2 := HG1.out.trans g2 (Nat.le_refl _)
 have ho2' := owns_dn ho2 HK1.out.size
 obtain ⟨va, ca, rfl, _, _⟩ := own_rg ho2' B
 have HK2 := Lib.hid hKK2
 have HR2 := Lib.hid hr2
 have HG2 := Lib.hid hg2
 have HT2 := Lib.hid hb2
 have HO2 := Lib.hid ho2'
 have HP2 := Lib.hid hp2
 clear CO hS2 hK2 hKK2 g2 hb2 hg2 hr2 ho2 ho2' hp2 HR1 HK1 HG1 HT1
 go_wp2_with fail
 refine CQ.out.mono ?_
 rintro e w3 ⟨L3, v3, ds, k3, rfl, hS3, hK3, g3, hk3, ho3, hp3⟩
 rw [HI2.out] at hk3
 have ho3' := owns_dn ho3 HK2.out.size
 obtain ⟨vb, cb, rfl, _, _⟩ := own_rg ho3' B
 have HM : Hid (MdR B w w3 p mb most L L3 (sbs s) (ps.map PS.pc) (qs.map PS.pc) id d va vb ca cb cs ds (k1 + k2 + k3)) := by
  have h1 := HI1.out
  have h2 := HI2.out
  have h3 := sbs_len s
  exact ⟨hS3, HK2.out.trans hK3, HG2.out.trans g3 (Nat.le_refl _), by rw [h1, h2, h3]; omega, g3.balz HR2.out.dok HT2.out, hK3.owns HO2.out (by decide) (by decide), ho3', HP2.out.more g3 HR2.out.dok, hp3⟩
 clear CQ hS3 hK3 g3 ho3 ho3' hp3 HR2 HK2 HG2 HT2 HO2 HP2
 go_wp2_with fail
 refine bodyPost_ret (v := .tuple #[.int .i64 id, .slice va cs.length ca, .slice vb ds.length cb, .bool true]) (by simp [results, Tryz.results7, go_sem]) rfl ⟨L3, id, d, va, vb, ca, cb, cs, ds, _, rfl, HM.out.kept0 (by first | exact Fr0.refl _ | exact (Fr0.refl _).drewN _ | exact (Fr0.refl _).drew)⟩
end Go.Proofs.YtbhidkmhlfggfaaGreatDoor
/- The walk of evergreenlaw43.conflicts. -/
set_option linter.unusedSimpArgs false
set_option linter.unusedVariables false
namespace Go.Proofs.YtbhidkmhlfggfaaGreatDoor
open Go.RowKit
structure Rcf where
 at_ : Int
 n : Int
 left : ByteArray
 right : ByteArray
def Rcf.vals (c : Rcf) : List Value := [.int .i64 c.at_, .int .i64 c.n, .string c.left, .string c.right]
theorem info_rcf : (Tryz.prog.info? 84).map (fun i => (i.zero, i.size, i.bytes)) = some (some (.agg #[.int .i64 0, .int .i64 0, .string ByteArray.empty, .string ByteArray.empty]), 4, 48) := by kernel_rfl
theorem rt_rcf : RT 41 84 4 48 := by
 obtain ⟨i, h1, h2, h3, h4⟩ := info_parts info_rcf
 exact ⟨by omega, i, _, by kernel_rfl, h1, h2, h3, h4, rfl⟩
def CfP.rc (p : CfP) : Rcf := ⟨p.at_, p.n, strOfNums p.left, strOfNums p.right⟩
set_option maxRecDepth 100000 in
set_option maxHeartbeats 2000000 in
theorem law43_conflicts {B B1 B2 : Nat} {w : World} {p mb : Nat} {most : Int} {L : List Ent} {fs : List Cf} {cps : List CfP} {a b : Option Addr} {ca cb : Nat} (hS : Sto B w p mb most L) (hO : SOk L) (hD : DOk L) (hBig : L.length ≤ 1000000) (hF : RG Cf.vals 4 B1 w a fs) (hA : All2 (CfR L) fs cps) (hW : RG Rcf.vals 4 B2 w b (cps.map CfP.rc)) (hl : fs.length ≤ 100000) (ht : ∀ c ∈ cps, c.left.length ≤ 4096 ∧ c.right.length ≤ 4096) :
    Calls Tryz.prog 13 #[.pointer (some ⟨p, 0, none⟩), .slice a fs.length ca, .slice b (cps.map CfP.rc).length cb] w fun e w' => e = .returned (.bool true) ∧ Fr0 w w' := by
 have HCL := Lib.hid hA.len
 have hcl : (cps.map CfP.rc).length = fs.length := by rw [List.length_map]; exact hA.len.symm
 rw [hcl]
 have HF := Lib.hid hF
 have HW := Lib.hid hW
 have HA := Lib.hid hA
 have HT := Lib.hid ht
 have CP := Lib.hid (fun W (hW : Fr0 w W) (id : Int) (t : List Int) (d : Int) (hb : BalZ L id t d) (hl : t.length ≤ 4096) => law37_Plain (hS.kept0 hW) hO hD hBig hb hl)
 clear hS hO hD hF hW hA ht hcl
 go_enter Tryz.func13, Tryz.ntmps13
 go_wp2_with fail
 go_loopg [20] fs.length (fun gk i wr => ∃ k : Nat, k + gk = fs.length ∧ i = .int .i64 k ∧ Fr0 w wr)
 case atStart => exact ⟨0, by omega, rfl, Fr0.refl w⟩
 case round =>
  obtain ⟨k, hk, rfl, hfr⟩ := hrel
  by_cases hlt : k < fs.length
  · obtain ⟨b1, o1, rfl, lb1, _, hc1⟩ := (HF.out.kept0 hfr) k hlt
    have c0 := hc1 0 _ rfl
    have c1 := hc1 1 _ rfl
    have c2 := hc1 2 _ rfl
    have c3 := hc1 3 _ rfl
    rw [Nat.add_zero] at c0
    have hlt2 : k < cps.length := by have := HCL.out; omega
    have hr := HA.out.get k hlt hlt2
    have ht := HT.out cps[k] (List.getElem_mem hlt2)
    obtain ⟨d1, bl⟩ := hr.left
    obtain ⟨d2, br⟩ := hr.right
    have CPL := Lib.hid (fun W (hW : Fr0 w W) => CP.out W hW _ _ _ bl ht.1)
    have CPR := Lib.hid (fun W (hW : Fr0 w W) => CP.out W hW _ _ _ br ht.2)
    have hkm : k < (cps.map CfP.rc).length := by rw [List.length_map]; exact hlt2
    have HWC : Hid (∀ W, Fr0 w W → ∃ b2 o2, b = some ⟨b2, o2, none⟩ ∧ b2 < W.heap.size ∧ W.cell? ⟨b2, o2 + k * 4, none⟩ = some (.int .i64 fs[k].at_) ∧ W.cell? ⟨b2, o2 + k * 4 + 1, none⟩ = some (.int .i64 fs[k].n) ∧ W.cell? ⟨b2, o2 + k * 4 + 2, none⟩ = some (.string (strOfNums cps[k].left)) ∧ W.cell? ⟨b2, o2 + k * 4 + 3, none⟩ = some (.string (strOfNums cps[k].right))) := fun W hW2 => by
     obtain ⟨b2, o2, e2, l2, _, hc2⟩ := (HW.out.kept0 hW2) k hkm
     have e : (cps.map CfP.rc)[k] = (cps[k]).rc := by rw [List.getElem_map]
     rw [e] at hc2
     rw [hr.at_, hr.n]
     exact ⟨b2, o2, e2, l2, by have := hc2 0 _ rfl; rwa [Nat.add_zero] at this, hc2 1 _ rfl, hc2 2 _ rfl, hc2 3 _ rfl⟩
    have HFR := Lib.hid hfr
    clear hc1 hr bl br ht HF HW HA HT CP hkm hfr
    generalize fs[k] = c at *
    generalize strOfNums cps[k].left = sl at *
    generalize strOfNums cps[k].right = sr at *
    obtain ⟨xa, xn, xl, xr⟩ := c
    dsimp only at *
    have F1 := Lib.hid (HFR.out.alloc (.cells #[.int .i64 xa, .int .i64 xn, .int .i64 xl, .int .i64 xr] 64 (0, 0)))
    go_upto_region 6 with fail
    have b3 := alloc_at wr (.cells #[.int .i64 xa, .int .i64 xn, .int .i64 xl, .int .i64 xr] 64 (0, 0)) wr.heap.size rfl
    generalize wr.alloc (.cells #[.int .i64 xa, .int .i64 xn, .int .i64 xl, .int .i64 xr] 64 (0, 0)) = W1 at *
    obtain ⟨d0, d1, d2, d3, df, ld⟩ := cells4s b3
    have HB3 := Lib.hid b3
    clear c0 c1 c2 c3 lb1 b3
    go_wp2_with fail
    refine (CPL.out W1 F1.out).mono ?_
    rintro e w2 ⟨rfl, f2⟩
    obtain ⟨d0, d1, d2, d3, df, ld⟩ := cells4s (f2.kept HB3.out)
    have HB4 := Lib.hid (f2.kept HB3.out)
    have F2 := Lib.hid (F1.out.trans f2)
    clear f2 CPL HB3 F1
    go_wp2_with fail
    refine (CPR.out w2 F2.out).mono ?_
    rintro e w3 ⟨rfl, f3⟩
    obtain ⟨d0, d1, d2, d3, df, ld⟩ := cells4s (f3.kept HB4.out)
    obtain ⟨b2, o2, rfl, l2, e0, e1, e2, e3⟩ := HWC.out w3 (F2.out.trans f3)
    have F3 := Lib.hid (F2.out.trans f3)
    clear f3 CPR HB4 F2 HWC
    go_upto_region 8 with fail
    go_quiet (fail)
    go_wp2_with fail
    go_roundg (gk - 1)
    case measure => omega
    case rel => exact ⟨k + 1, by omega, by go_num, F3.out.drewN _⟩
  · go_wp2_with fail
    go_ret
    exact ⟨rfl, hfr⟩
end Go.Proofs.YtbhidkmhlfggfaaGreatDoor
/- The walk of evergreenref43.Of. -/
set_option linter.unusedSimpArgs false
set_option linter.unusedVariables false
namespace Go.Proofs.YtbhidkmhlfggfaaGreatDoor
open Go.RowKit
def resQ (t : List Int) (g : Grp PC) (k : Int) : List PC := if 0 < k then [⟨g.at_, g.end_ - g.at_, if k = 2 then sdr t g else if k = 3 then sdl t g ++ sdr t g else sdl t g⟩] else []
def refQ (t : List Int) (ks : List Int) : Nat → List (Grp PC) → List PC
 | _, [] => []
 | c, g :: gs => if isC t g = true then resQ t g (ks.getD c 0) ++ refQ t ks (c + 1) gs else chP t g :: refQ t ks c gs
theorem refQ_snoc (t : List Int) (ks : List Int) (g : Grp PC) : ∀ (gs : List (Grp PC)) (c : Nat), refQ t ks c (gs ++ [g]) = refQ t ks c gs ++ (if isC t g = true then resQ t g (ks.getD (c + (mgC t gs).length) 0) else [chP t g])
 | [], c => by
  show refQ t ks c [g] = [] ++ _
  simp only [refQ, List.append_nil, List.nil_append]
  split
  · simp [mgC]
  · rfl
 | h :: gs, c => by
  show refQ t ks c (h :: (gs ++ [g])) = _
  rw [refQ, refQ, refQ_snoc t ks g gs (c + 1), refQ_snoc t ks g gs c]
  by_cases hc : isC t h = true
  · rw [if_pos hc, if_pos hc]
    have e : (mgC t (h :: gs)).length = (mgC t gs).length + 1 := by unfold mgC; rw [List.filter_cons_of_pos (by simpa using hc)]; simp
    rw [e, List.append_assoc, show c + ((mgC t gs).length + 1) = c + 1 + (mgC t gs).length by omega]
  · rw [if_neg hc, if_neg hc]
    have e : (mgC t (h :: gs)).length = (mgC t gs).length := by unfold mgC; rw [List.filter_cons_of_neg (by simpa using hc)]
    rw [e]
    rfl
theorem refQ_nil (t : List Int) : ∀ (gs : List (Grp PC)) (c : Nat), refQ t [] c gs = mgO t gs
 | [], _ => rfl
 | g :: gs, c => by
  rw [refQ, refQ_nil t gs (c + 1), refQ_nil t gs c]
  unfold mgO
  by_cases hc : isC t g = true
  · rw [if_pos hc, List.filter_cons_of_neg (by simp [hc])]
    rfl
  · rw [if_neg hc, List.filter_cons_of_pos (by simpa using hc)]
    rfl
def RoPost (w : World) (t : List Int) (hs : List (Grp PC)) (ks : List Int) (e : Ending) (w' : World) : Prop :=
 ∃ v1 v2, e = .returned (.tuple #[v1, v2]) ∧ Fr0 w w' ∧ w'.ownsRow w.heap.size 62 3 v1 ((refQ t ks 0 hs).map PC.ps).length (((refQ t ks 0 hs).map PC.ps).flatMap PS.vals) ∧ w'.ownsRow w.heap.size 84 4 v2 ((mgC t hs).map CfP.rc).length (((mgC t hs).map CfP.rc).flatMap Rcf.vals)
theorem side_str {A : List Int} {o : ByteArray} (h : sbs o = A) : o = strOfNums A := by rw [← h, str_sbs]
theorem side_of {B : Nat} {w : World} {s : ByteArray} {a : Option Addr} {ca : Nat} {ps : List PS} {g : Rgp} {l : List PC} (hA : RG PS.vals 3 B w a ps) (hl : ps.length ≤ 1000) (hg : 0 ≤ g.from_ ∧ g.to_ ≤ s.size) (hs : s.size ≤ 1000) (hf : (ps.map PS.pc).filter (fun c => decide (g.from_ ≤ c.at_ ∧ c.at_ ≤ g.to_)) = l) (hw : within g.to_ g.from_ l) (hrl : (sdG (sbs s) g.to_ g.from_ l).length ≤ 100000) :
    Calls Tryz.prog 26 #[.string s, .slice a ps.length ca, .agg #[.int .i64 g.from_, .int .i64 g.to_, .bool g.l, .bool g.r]] w fun e w' => e = .returned (.string (strOfNums (sdG (sbs s) g.to_ g.from_ l))) ∧ Fr0 w w' := by
 have e : (ps.filter (inR g)).map PS.pc = l := by
  rw [← hf, List.filter_map]
  rfl
 refine (r43_Side (g := g) (RES := sdG (sbs s) g.to_ g.from_ l) hA hl hg hs (by rw [e]; exact hw) (by rw [e]) hrl).mono ?_
 rintro e w' ⟨o, rfl, ho, hf⟩
 exact ⟨by rw [← side_str ho], hf⟩
end Go.Proofs.YtbhidkmhlfggfaaGreatDoor

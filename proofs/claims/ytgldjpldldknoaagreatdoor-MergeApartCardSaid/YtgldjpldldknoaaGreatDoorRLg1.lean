/- The walk of evergreenlaw43.begun. -/
import Derived.Test.YtgldjpldldknoaaGreatDoorRMr5
import Derived.Test.YtgldjpldldknoaaGreatDoorRRch1
import Derived.Lib.SlBytesConst
import Derived.Test.YtgldjpldldknoaaGreatDoorRCn1
import Derived.Test.YtgldjpldldknoaaGreatDoorRSet
set_option linter.unusedSimpArgs false
set_option linter.unusedVariables false
namespace Go.Proofs.YtgldjpldldknoaaGreatDoor
open Go.RowKit
def abc8 : List Int := [97, 98, 99, 100, 101, 102, 103, 104]
def psX : List PS := [⟨1, 1, ⟨#[88]⟩⟩]
def psY : List PS := [⟨2, 0, ⟨#[89]⟩⟩]
theorem bytes_abc8 (w : World) (f : Nat × Nat) : BytesAt (w.alloc (.cells #[.int .u8 97, .int .u8 98, .int .u8 99, .int .u8 100, .int .u8 101, .int .u8 102, .int .u8 103, .int .u8 104] 5 f)) w.heap.size 0 abc8 := by
 refine ⟨⟨_, _, alloc_at _ _ _ rfl, fun i hi => ?_⟩, fun x hx => ?_⟩
 · match i, hi with
   | 0, _ => rfl
   | 1, _ => rfl
   | 2, _ => rfl
   | 3, _ => rfl
   | 4, _ => rfl
   | 5, _ => rfl
   | 6, _ => rfl
   | 7, _ => rfl
 · simp only [abc8, List.mem_cons, List.not_mem_nil, or_false] at hx
   omega
theorem rg_one (B : Nat) (w : World) (x : PS) : RG PS.vals 3 B (w.alloc (.cells #[.int .i64 x.at_, .int .i64 x.n, .string x.s] 65 (0, 0))) (some ⟨w.heap.size, 0, none⟩) [x] := by
 have hb := alloc_at w (.cells #[.int .i64 x.at_, .int .i64 x.n, .string x.s] 65 (0, 0)) _ rfl
 intro i hi
 refine ⟨_, 0, rfl, lt_of_block hb, .inr ⟨_, _, _, hb, by decide, by decide⟩, fun j u hj => ?_⟩
 rw [cell_of_block hb]
 match i, hi with
 | 0, _ =>
  match j with
  | 0 => exact hj
  | 1 => exact hj
  | 2 => exact hj
  | j + 3 => simp [PS.vals] at hj
theorem dvd_fixed : dvdG PC.at_ PC.n (psX.map PS.pc) (psY.map PS.pc) = [⟨1, 2, psX.map PS.pc, psY.map PS.pc⟩] := by
 unfold dvdG
 have e : mrgS PC.at_ (psX.map PS.pc) (psY.map PS.pc) = [((⟨1, 1, [88]⟩ : PC), true), ((⟨2, 0, [89]⟩ : PC), false)] := by
  show mrgS PC.at_ [(⟨1, 1, [88]⟩ : PC)] [(⟨2, 0, [89]⟩ : PC)] = _
  rw [mrgS, if_pos (by decide), mrgS]
  rfl
 rw [e]
 rfl
theorem mg_fixed : mgO abc8 [⟨1, 2, psX.map PS.pc, psY.map PS.pc⟩] = [] ∧ mgC abc8 [⟨1, 2, psX.map PS.pc, psY.map PS.pc⟩] = [⟨1, 1, [88], [98, 89]⟩] := by
 have h : isC abc8 ⟨1, 2, psX.map PS.pc, psY.map PS.pc⟩ = true := by
  unfold isC
  have e1 : sdl abc8 ⟨1, 2, psX.map PS.pc, psY.map PS.pc⟩ = [88] := rfl
  have e2 : sdr abc8 ⟨1, 2, psX.map PS.pc, psY.map PS.pc⟩ = [98, 89] := rfl
  rw [e1, e2]
  simp [psX, psY]
 constructor
 · unfold mgO
   rw [List.filter_cons_of_neg (by simp [h])]
   rfl
 · unfold mgC
   rw [List.filter_cons_of_pos (by simp [h])]
   rfl
def BgPost (w : World) (e : Ending) (w' : World) : Prop :=
 ∃ mp kb pp tp p mb L, e = .returned (.tuple #[.pointer (some ⟨mp, 0, none⟩), .pointer (some ⟨p, 0, none⟩), .bool true]) ∧ Me w.heap.size w' mp kb pp tp p mb 1048576 L ∧ L.length ≤ 10000 ∧ Fr0 w w' ∧ w.heap.size ≤ kb
theorem Kk.all0 {mb kb : Nat} {w w1 w' : World} (h0 : Fr0 w w1) (h : Kk w.heap.size mb kb w1 w') (hk : w.heap.size ≤ kb) : Fr0 w w' :=
 ⟨h.os.trans h0.os, h.tape.trans h0.tape, h.output.trans h0.output, Nat.le_trans h0.size h.size, fun k hk2 _ => (h.low k hk2 (Nat.lt_of_lt_of_le hk2 h0.size) (fun e => by omega)).trans (h0.block k hk2 id)⟩
theorem own_cap {w : World} {base : Nat} {e : TypeId} {size n m cap : Nat} {a : Option Addr} {xs : List Value} (h : w.ownsRow base e size (.slice a n cap) m xs) : m ≤ cap := by
 rcases h.2 with ⟨h1, h2⟩ | ⟨g, c, cur, h1, _, _, h3, _⟩
 · simp only [Value.slice.injEq] at h1; omega
 · simp only [Value.slice.injEq] at h1; omega
theorem own_rg {w : World} {base : Nat} {v : Value} {cs : List Chg} (h : w.ownsRow base 55 3 v cs.length (cs.flatMap Chg.vals)) (B : Nat) : ∃ a cap, v = .slice a cs.length cap ∧ RG Chg.vals 3 B w a cs ∧ cs.length ≤ cap := by
 obtain ⟨a, cap, rfl, hr⟩ := rg_of_own (B := B) (vals := Chg.vals) (size := 3) (fun _ _ => rfl) h (by decide) (by decide)
 exact ⟨a, cap, rfl, hr, own_cap h⟩
theorem lst12 : 600 < lst 13 := by decide
set_option maxRecDepth 100000 in
set_option maxHeartbeats 4000000 in
theorem law43_begun {w : World} (hdeb : Deb w.heap.size w) : Calls Tryz.prog 5 #[] w (BgPost w) := by
 have kc : ∀ (w : World) (C : Array Value) (n c : Nat), (convert 41 41 (.slice (some ⟨w.heap.size, 0, none⟩) n c)).run Tryz.prog (w.alloc (.cells C 5 (0, 0))) = .ok (.slice (some ⟨w.heap.size, 0, none⟩) n c) (w.alloc (.cells C 5 (C.size, C.size + 1))) :=
  fun (w : World) (C : Array Value) (n c : Nat) => Lib.run_convert_bytes_const (P := Tryz.prog) w 41 5 C n c Tryz.underlying41 Tryz.underlying5
 have HDB := Lib.hid hdeb
 clear hdeb
 go_enter Tryz.func5, Tryz.ntmps5
 go_wp2_with fail
 refine (st_New w).mono ?_
 rintro e w1 ⟨rfl, f1, hst, hsz⟩
 have hS1 : Sto w.heap.size w1 (w.heap.size + 1) w.heap.size 1048576 [] := ⟨_, hst, by omega, by omega, fun k hk => by cases hk⟩
 have C1 := Lib.hid (sig_New hS1 SOk.nil DOk.nil Uq.nil (Fr.size f1) (HDB.out.low (fun k hk hk2 => f1.block k hk2 id)) (by simp))
 have HF1 := Lib.hid f1
 clear hst hsz hS1 f1
 go_wp2_with fail
 refine C1.out.mono ?_
 rintro e w2 ⟨pp, tp, rfl, hp2, f2⟩
 have CN := Lib.hid (cn_New hp2)
 have HF2 := Lib.hid (HF1.out.trans f2)
 clear hp2 f2 C1 HF1
 go_wp2_with fail
 refine CN.out.mono ?_
 rintro e w3 ⟨mp, kb, rfl, hm3, f3, hkb, hkm⟩
 have HM3 := Lib.hid hm3
 have HF3 := Lib.hid (HF2.out.trans f3)
 have hkw : w.heap.size ≤ kb := Nat.le_trans HF2.out.size hkb
 obtain ⟨p, hp⟩ : ∃ p, w.heap.size + 1 = p := ⟨_, rfl⟩
 obtain ⟨mb, hmb⟩ : ∃ mb, w.heap.size = mb := ⟨_, rfl⟩
 rw [hp] at HM3 ⊢
 have HMB := Lib.hid hmb
 conv at HM3 => rw [hmb]
 clear hm3 f3 CN HF2 hp hkb hkm hmb
 go_wp2_with fail
 have hr3 : Room mb w3 p mb 1048576 [] 16 := HM3.out.room (by simp) (by simp)
 have CT := Lib.hid (sto_TextN (bs := abc8) (n := 8) rfl (hr3.kept0 ((Fr0.refl w3).alloc (.cells #[.int .u8 97, .int .u8 98, .int .u8 99, .int .u8 100, .int .u8 101, .int .u8 102, .int .u8 103, .int .u8 104] 5 (8, 9)))) _ 0 8 (bytes_abc8 w3 (8, 9)) (by omega) (by omega) (by omega))
 clear hr3
 refine CT.out.mono ?_
 rintro e w4 ⟨L4, z, dz, kz, rfl, hS4, hK4, g4, bz, hz⟩
 have hl4 : L4.length ≤ 16 := by have := g4.len; simp at this; omega
 have HM4 := Lib.hid ((HM3.out.kept0 ((Fr0.refl w3).alloc _)).made hS4 hK4 g4 (by omega))
 have HF4 : Hid (Fr0 w w4) := Kk.all0 (mb := mb) (kb := kb) (HF3.out.alloc _) (by rw [HMB.out]; exact Kk.ofK hK4) hkw
 have HZ4 := Lib.hid bz
 clear hS4 hK4 g4 bz hz CT HM3 HF3
 have hr4 : Room mb w4 p mb 1048576 L4 4 := HM4.out.room (by omega) (by omega)
 have CP := Lib.hid (law37_To (ps := psX) (cap := 1) ((hr4.less (m := 2) (by omega)).kept0 ((Fr0.refl w4).alloc (.cells #[.int .i64 1, .int .i64 1, .string ⟨#[88]⟩] 65 (0, 0)))) (rg_one mb w4 ⟨1, 1, ⟨#[88]⟩⟩) (by simp [psX]) (fun c hc => by simp only [psX, List.mem_singleton] at hc; subst hc; decide))
 clear hr4
 go_wp2_with fail
 refine CP.out.mono ?_
 rintro e w5 ⟨L5, v5, cs, k5, rfl, hS5, hK5, g5, hk5, ho5, hp5⟩
 have hk5' : k5 ≤ 2 := hk5
 have hl5 : L5.length ≤ 18 := by have := g5.len; omega
 have HD4 := Lib.hid HM4.out.dok
 have HM5 := Lib.hid ((HM4.out.kept0 ((Fr0.refl w4).alloc _)).made hS5 hK5 g5 (by omega))
 have HF5 : Hid (Fr0 w w5) := Kk.all0 (mb := mb) (kb := kb) (HF4.out.alloc _) (by rw [HMB.out]; exact Kk.ofK hK5) hkw
 have HZ5 := Lib.hid (g5.balz HD4.out HZ4.out)
 have HO5 := Lib.hid ho5
 have HP5 := Lib.hid hp5
 clear hS5 hK5 g5 hk5 hk5' ho5 hp5 CP HM4 HF4 HZ4 HD4
 have hr5 : Room mb w5 p mb 1048576 L5 4 := HM5.out.room (by omega) (by omega)
 have CP := Lib.hid (law37_To (ps := psY) (cap := 1) ((hr5.less (m := 2) (by omega)).kept0 ((Fr0.refl w5).alloc (.cells #[.int .i64 2, .int .i64 0, .string ⟨#[89]⟩] 65 (0, 0)))) (rg_one mb w5 ⟨2, 0, ⟨#[89]⟩⟩) (by simp [psY]) (fun c hc => by simp only [psY, List.mem_singleton] at hc; subst hc; decide))
 clear hr5
 go_wp2_with fail
 refine CP.out.mono ?_
 rintro e w6 ⟨L6, v6, ds, k6, rfl, hS6, hK6, g6, hk6, ho6, hp6⟩
 have hk6' : k6 ≤ 2 := hk6
 have hl6 : L6.length ≤ 20 := by have := g6.len; omega
 have HD5 := Lib.hid HM5.out.dok
 have hm6 := (HM5.out.kept0 ((Fr0.refl w5).alloc _)).made hS6 hK6 g6 (by omega)
 have HF6 : Hid (Fr0 w w6) := Kk.all0 (mb := mb) (kb := kb) (HF5.out.alloc _) (by rw [HMB.out]; exact Kk.ofK hK6) hkw
 have hz6 := g6.balz HD5.out HZ5.out
 have ho56 := hK6.owns (((Fr0.refl w5).alloc _).owns HO5.out) (by decide) (by decide)
 have hp56 := HP5.out.more g6 HD5.out
 obtain ⟨a5, c5, rfl, ra5, hc5⟩ := own_rg ho56 mb
 obtain ⟨a6, c6, rfl, ra6, hc6⟩ := own_rg ho6 mb
 have hlc : cs.length = 1 := hp56.len
 have hld : ds.length = 1 := hp6.len
 have hT : Two2 mb w6 L6 z abc8 dz a5 a6 c5 c6 cs ds (psX.map PS.pc) (psY.map PS.pc) := ⟨hz6, ra5, ra6, hc5, hc6, hp56, hp6, by decide, by decide, by rw [hlc, hld]; decide⟩
 have CM := mr_merge (NM := 2828) 12 hm6 hT lst12 (by rw [hlc, hld]) (by omega) (by omega)
 rw [dvd_fixed] at CM
 have CO := mr_Of (by simp) (by intro h hh; rw [List.mem_singleton.1 hh]; exact .inl (by simp [psX])) (by intro h hh; rw [List.mem_singleton.1 hh]; decide) CM
 have HO := Lib.hid CO
 clear hS6 hK6 g6 hk6 hk6' ho6 hp6 CP HM5 HF5 HZ5 HD5 HO5 HP5 hm6 hz6 ho56 hp56 ra5 ra6 hc5 hc6 hT CM CO hlc hld
 go_wp2_with fail
 refine HO.out.mono ?_
 rintro e w7 ⟨L7, v1, v2, rs, fs, rfl, hm7, hk7, g7, o1, o2, hp7, ha7⟩
 rw [mg_fixed.1] at hp7
 rw [mg_fixed.2] at ha7
 obtain ⟨q1, d1, rfl⟩ := owns_form o1
 obtain ⟨q2, d2, rfl⟩ := owns_form o2
 have hr2 := owns_rd (vals := Cf.vals) (size := 4) (B := 0) (fun _ _ => rfl) o2 (by decide) (by decide)
 have hl0 : rs.length = 0 := hp7.len
 have hl1 : fs.length = 1 := ha7.len
 rw [hl0, hl1]
 clear hl0 hl1 o1 o2
 match rs, fs, hp7, ha7 with
 | [], [f], _, ha7 =>
  obtain ⟨b7, o7, rfl, lb7, _, hc7⟩ := hr2 0 (by simp)
  have e0 := hc7 0 _ rfl
  have e1 := hc7 1 _ rfl
  have ea : f.at_ = 1 := ha7.1.at_
  have en : f.n = 1 := ha7.1.n
  simp only [List.getElem_cons_zero, Nat.zero_mul, Nat.add_zero] at e0 e1
  rw [ea] at e0
  rw [en] at e1
  have hl7 : L7.length ≤ 10000 := by have := g7.gr.len; omega
  have HF7 : Hid (Fr0 w w7) := Kk.all0 HF6.out (by rw [HMB.out]; exact hk7) hkw
  have HX : Hid (∀ W, Fr0 w7 W → BgPost w (.returned (.tuple #[.pointer (some ⟨mp, 0, none⟩), .pointer (some ⟨p, 0, none⟩), .bool true])) W) := fun W hW => ⟨mp, kb, pp, tp, p, mb, L7, rfl, by rw [HMB.out]; exact hm7.kept0 hW, hl7, HF7.out.trans hW, hkw⟩
  clear hm7 hk7 g7 hp7 ha7 hr2 hc7 hl7 HF7 HF6 HO HMB hkw hl6 hl5 hl4 ea en
  go_upto_region 9 with fail
  go_quiet (fail)
  go_wp2_with fail
  go_ret3
  exact HX.out _ (by first | exact Fr0.refl _ | exact (Fr0.refl _).drewN _ | exact (Fr0.refl _).drew)
end Go.Proofs.YtgldjpldldknoaaGreatDoor
/- The walk of evergreenlaw43.alike: two patches of the same changes. -/
set_option linter.unusedSimpArgs false
set_option linter.unusedVariables false
namespace Go.Proofs.YtgldjpldldknoaaGreatDoor
open Go.RowKit
theorem own_kk1 {B : Nat} {w w' : World} {mp kb pp tp p mb : Nat} {most : Int} {L : List Ent} (hm : Me B w mp kb pp tp p mb most L) (hk : Kk B mb kb w w') {base : Nat} {e : TypeId} {size n : Nat} {v : Value} {xs : List Value} (ho : w.ownsRow base e size v n xs) (he : tyP e = false) : w'.ownsRow base e size v n xs := by
 obtain ⟨T, kn, q⟩ := hm
 refine Ks.owns hk ho he (fun k h1 h2 => ?_)
 obtain ⟨cur, hc⟩ := owns_block ho h1
 subst h2
 rw [q.kmap] at hc
 cases hc
structure AlR (B base : Nat) (w wr : World) (mp kb pp tp p mb : Nat) (most : Int) (L L' : List Ent) (a b : Option Addr) (ca cb : Nat) (cs ds : List Chg) (ps : List PC) (k : Nat) : Prop where
 me : Me B wr mp kb pp tp p mb most L'
 kk : Kk B mb kb w wr
 gu : Gu L L' (k * 200)
 oa : wr.ownsRow base 55 3 (.slice a cs.length ca) cs.length (cs.flatMap Chg.vals)
 ob : wr.ownsRow base 55 3 (.slice b ds.length cb) ds.length (ds.flatMap Chg.vals)
 pa : PChg L' cs ps
 pb : PChg L' ds ps
theorem AlR.kept0 {B base : Nat} {w wr W : World} {mp kb pp tp p mb : Nat} {most : Int} {L L' : List Ent} {a b : Option Addr} {ca cb : Nat} {cs ds : List Chg} {ps : List PC} {k : Nat} (h : AlR B base w wr mp kb pp tp p mb most L L' a b ca cb cs ds ps k) (hf : Fr0 wr W) : AlR B base w W mp kb pp tp p mb most L L' a b ca cb cs ds ps k :=
 ⟨h.me.kept0 hf, h.kk.trans (Kk.of0 hf), h.gu, hf.owns h.oa, hf.owns h.ob, h.pa, h.pb⟩
theorem chg_cells {base : Nat} {w : World} {b o n cap : Nat} {cs : List Chg} (h : w.ownsRow base 55 3 (.slice (some ⟨b, o, none⟩) n cap) cs.length (cs.flatMap Chg.vals)) (k : Nat) (hk : k < cs.length) : b < w.heap.size ∧ w.cell? ⟨b, o + k * 3, none⟩ = some (.int .i64 cs[k].at_) ∧ w.cell? ⟨b, o + k * 3 + 1, none⟩ = some (.int .i64 cs[k].n) ∧ w.cell? ⟨b, o + k * 3 + 2, none⟩ = some (.int .i64 cs[k].text) := by
 obtain ⟨b3, o3, cp3, e3, l3, q0, q1, q2⟩ := read_chg h k hk
 simp only [Value.slice.injEq, Option.some.injEq, Addr.mk.injEq, and_true] at e3
 obtain ⟨⟨rfl, rfl⟩, _⟩ := e3
 exact ⟨l3, q0, q1, q2⟩
set_option maxRecDepth 100000 in
set_option maxHeartbeats 4000000 in
theorem law43_alike {B base : Nat} {w : World} {mp kb pp tp p mb : Nat} {most : Int} {L : List Ent} {a b : Option Addr} {ca cb : Nat} {cs ds : List Chg} {ps : List PC} (hm : Me B w mp kb pp tp p mb most L) (oa : w.ownsRow base 55 3 (.slice a cs.length ca) cs.length (cs.flatMap Chg.vals)) (ob : w.ownsRow base 55 3 (.slice b ds.length cb) ds.length (ds.flatMap Chg.vals)) (pa : PChg L cs ps) (pb : PChg L ds ps) (ht : ∀ c ∈ ps, c.text.length ≤ 50) (hl : cs.length ≤ 100) (hmost : ((L.length + 20000 : Nat) : Int) ≤ most) (hL : L.length + 20000 ≤ 500000) :
    Calls Tryz.prog 8 #[.pointer (some ⟨mp, 0, none⟩), .slice a cs.length ca, .slice b ds.length cb] w fun e w' => ∃ L', e = .returned (.bool true) ∧ Me B w' mp kb pp tp p mb most L' ∧ Kk B mb kb w w' ∧ Gu L L' 20000 := by
 have e1 := pa.len
 have e2 := pb.len
 have H0 : Hid (AlR B base w w mp kb pp tp p mb most L L a b ca cb cs ds ps 0) := ⟨hm, Kk.refl _ _ _ _, (Gu.refl hm.sok hm.dok hm.uq).le (Nat.zero_le _), oa, ob, pa, pb⟩
 have HT := Lib.hid ht
 have HMO := Lib.hid hmost
 have HLL := Lib.hid hL
 have hdl : ds.length = cs.length := by omega
 have z0 : ((cs.length : Int) != (ds.length : Int)) = false := by rw [hdl]; simp
 have HDL := Lib.hid hdl
 have HE1 := Lib.hid e1
 clear hm oa ob pa pb ht hmost hL hdl e1 e2
 go_enter Tryz.func8, Tryz.ntmps8
 go_wp2_with fail
 go_loopg [17] cs.length (fun gk i wr => ∃ (k : Nat) (L' : List Ent), k + gk = cs.length ∧ i = .int .i64 k ∧ AlR B base w wr mp kb pp tp p mb most L L' a b ca cb cs ds ps k)
 case atStart => exact ⟨0, L, by omega, rfl, H0.out⟩
 case round =>
  clear H0
  obtain ⟨k, L', hk, rfl, hr⟩ := hrel
  by_cases hlt : k < cs.length
  · have hlt2 : k < ds.length := by have := HDL.out; omega
    have hlt3 : k < ps.length := by have := HE1.out; omega
    obtain ⟨b1, o1, cp1, e1, l1, c0, c1, c2⟩ := read_chg hr.oa k hlt
    simp only [Value.slice.injEq, true_and] at e1
    obtain ⟨rfl, rfl⟩ := e1
    obtain ⟨b2, o2, cp2, e2, l2, d0, d1, d2⟩ := read_chg hr.ob k hlt2
    simp only [Value.slice.injEq, true_and] at e2
    obtain ⟨rfl, rfl⟩ := e2
    obtain ⟨f1, f2, dx, bx⟩ := hr.pa.get k hlt hlt3
    obtain ⟨g1, g2, dy, by_⟩ := hr.pb.get k hlt2 hlt3
    have htx := HT.out ps[k] (List.getElem_mem hlt3)
    have hgl := hr.gu.gr.len
    have CS := Lib.hid (fun W (hW : Fr0 wr W) => cn_SameT (hr.me.kept0 hW) bx by_ (by omega) (by have := HMO.out; omega) (by have := HLL.out; omega))
    rw [f1] at c0
    rw [f2] at c1
    rw [g1] at d0
    rw [g2] at d1
    have HCE : Hid (∀ W, Kk B mb kb wr W → (b1 < W.heap.size ∧ W.cell? ⟨b1, o1 + k * 3, none⟩ = some (.int .i64 ps[k].at_) ∧ W.cell? ⟨b1, o1 + k * 3 + 1, none⟩ = some (.int .i64 ps[k].n) ∧ W.cell? ⟨b1, o1 + k * 3 + 2, none⟩ = some (.int .i64 cs[k].text)) ∧ (b2 < W.heap.size ∧ W.cell? ⟨b2, o2 + k * 3, none⟩ = some (.int .i64 ps[k].at_) ∧ W.cell? ⟨b2, o2 + k * 3 + 1, none⟩ = some (.int .i64 ps[k].n) ∧ W.cell? ⟨b2, o2 + k * 3 + 2, none⟩ = some (.int .i64 ds[k].text))) := fun W h => by
     have h1 := chg_cells (own_kk1 hr.me h hr.oa (by decide)) k hlt
     have h2 := chg_cells (own_kk1 hr.me h hr.ob (by decide)) k hlt2
     rw [f1, f2] at h1
     rw [g1, g2] at h2
     exact ⟨h1, h2⟩
    have HST : Hid (∀ W L2, Me B W mp kb pp tp p mb most L2 → Kk B mb kb wr W → Gu L' L2 (4 * ps[k].text.length) → AlR B base w W mp kb pp tp p mb most L L2 (some ⟨b1, o1, none⟩) (some ⟨b2, o2, none⟩) ca cb cs ds ps (k + 1)) := fun W L2 h1 h2 h3 =>
     ⟨h1, hr.kk.trans h2, hr.gu.trans h3 (by omega), own_kk1 hr.me h2 hr.oa (by decide), own_kk1 hr.me h2 hr.ob (by decide), hr.pa.more h3.gr hr.me.dok, hr.pb.more h3.gr hr.me.dok⟩
    generalize cs[k].text = x at *
    generalize ds[k].text = y at *
    generalize ps[k].at_ = pa at *
    generalize ps[k].n = pn at *
    clear f1 f2 g1 g2 bx by_ hr hgl
    go_upto_region 6 with fail
    go_cut [8, 9] (fun s8 s9 wx => s8 = .bool true ∧ s9 = .nilIface ∧ ∃ L2, Me B wx mp kb pp tp p mb most L2 ∧ Kk B mb kb wr wx ∧ Gu L' L2 (4 * ps[k].text.length))
    case first =>
     go_region_held3 (fun w' => w'.cell? ⟨b1, o1 + k * 3 + 2, none⟩ = some (.int .i64 x) ∧ w'.cell? ⟨b2, o2 + k * 3 + 2, none⟩ = some (.int .i64 y))
      (first | (go_keep; done) | exact HKF)
      ((go_at_call 21; (with_reducible refine Calls.mono (CS.out _ (by first | exact Fr0.refl _ | exact (Fr0.refl _).drew)) ?_); rintro e w5 ⟨L2, rfl, hm5, hk5, hg5⟩; have HKW : Kk B mb kb wr w5 := (by first | exact hk5 | exact (Kk.of0 (Fr0.refl _).drew).trans hk5); have HKF : w5.cell? ⟨b1, o1 + k * 3 + 2, none⟩ = some (.int .i64 x) ∧ w5.cell? ⟨b2, o2 + k * 3 + 2, none⟩ = some (.int .i64 y) := (have q := HCE.out _ HKW; ⟨q.1.2.2.2, q.2.2.2.2⟩)))
     all_goals
      go_wp2_with fail
      go_meet
      exact ⟨rfl, rfl, L2, hm5, HKW, hg5⟩
    case rest =>
    obtain ⟨rfl, rfl, L2, hm5, hk5, hg5⟩ := hcut
    rename World => W2
    obtain ⟨⟨l1, c0, c1, c2⟩, l2, d0, d1, d2⟩ := HCE.out W2 hk5
    have HX := Lib.hid (HST.out W2 L2 hm5 hk5 hg5)
    have z1 : (pa != pa) = false := by simp
    have z2 : (pn != pn) = false := by simp
    clear hm5 hk5 hg5 HST HCE CS
    go_upto_region 7 with fail
    go_quiet (fail)
    go_wp2_with fail
    go_roundg (gk - 1)
    case measure => omega
    case rel => exact ⟨k + 1, L2, by omega, by go_num, HX.out.kept0 ((Fr0.refl _).drewN _)⟩
  · have HX := Lib.hid hr
    have hke : k = cs.length := by omega
    clear hr
    go_wp2_with fail
    go_ret
    exact ⟨L', rfl, HX.out.me, HX.out.kk, HX.out.gu.le (by omega)⟩
end Go.Proofs.YtgldjpldldknoaaGreatDoor

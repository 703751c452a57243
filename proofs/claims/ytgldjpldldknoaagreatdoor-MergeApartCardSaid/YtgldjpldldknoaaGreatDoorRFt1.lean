/- The walk of evergreenlaw43.fit: what it makes of any changes. -/
import Derived.Test.YtgldjpldldknoaaGreatDoorRSet
import Derived.IntWalk
set_option linter.unusedSimpArgs false
set_option linter.unusedVariables false
namespace Go.Proofs.YtgldjpldldknoaaGreatDoor
open Go.RowKit
theorem sbs_cut50 (s : ByteArray) (n : Nat) (h : n ≤ s.size) : sbs (s.extract 0 n) = (sbs s).take n := by
 unfold sbs
 rw [← List.map_take]
 congr 1
 have : (s.extract 0 n).data = s.data.extract 0 n := ByteArray.data_extract
 rw [this]
 simp
theorem uW_tmod (x m : Int) (h : 0 ≤ m) : (IntKind.u64.wrap x).tmod m = uW x % m := by
 rw [IntKind.wrap_u64]
 exact Int.tmod_eq_emod_of_nonneg (Int.emod_nonneg _ (by omega))
theorem ft_take {T at_ f n : Int} {k : Nat} {c : PS} {r : List PS} (hk : k < 8) (hT : at_ ≤ T) (hf : uW c.at_ % (T - at_ + 1) = f) (hn : uW c.n % (T - (at_ + f) + 1) = n) (h : 0 < n ∨ (sbs c.s).take 50 ≠ []) : ftL T (8 - k) at_ (c :: r) = ⟨at_ + f, n, (sbs c.s).take 50⟩ :: ftL T (8 - (k + 1)) (at_ + f + n + 1) r := by
 subst hf
 subst hn
 obtain ⟨i, hi⟩ : ∃ i, 8 - (k + 1) = i := ⟨_, rfl⟩
 rw [hi, show 8 - k = i + 1 by omega, ftL, if_neg (by omega), if_pos h]
theorem ft_skip {T at_ f n : Int} {k : Nat} {c : PS} {r : List PS} (hk : k < 8) (hT : at_ ≤ T) (hf : uW c.at_ % (T - at_ + 1) = f) (hn : uW c.n % (T - (at_ + f) + 1) = n) (h : ¬ (0 < n ∨ (sbs c.s).take 50 ≠ [])) : ftL T (8 - k) at_ (c :: r) = ftL T (8 - (k + 1)) at_ r := by
 subst hf
 subst hn
 obtain ⟨i, hi⟩ : ∃ i, 8 - (k + 1) = i := ⟨_, rfl⟩
 rw [hi, show 8 - k = i + 1 by omega, ftL, if_neg (by omega), if_neg h]
theorem ft_stop {T at_ : Int} (h : T < at_) : ∀ (i : Nat) (l : List PS), ftL T i at_ l = []
 | 0, _ => rfl
 | _ + 1, [] => rfl
 | _ + 1, _ :: _ => if_pos h
theorem ft_none {T at_ : Int} : ∀ (i : Nat), ftL T i at_ [] = []
 | 0 => rfl
 | _ + 1 => rfl
def CtPost (B : Nat) (wr : World) (p mb : Nat) (most : Int) (L : List Ent) (t : List Int) (s14 s15 : Value) (wx : World) : Prop :=
 s15 = .nilIface ∧ ∃ L2 z dz kz, s14 = .int .i64 z ∧ Sto B wx p mb most L2 ∧ Kp B mb wr wx ∧ Grows L L2 kz ∧ BalZ L2 z t dz ∧ kz ≤ 100
theorem sbs_all50 (s : ByteArray) (h : (s.size : Int) ≤ 50) : (sbs s).take 50 = sbs s := List.take_of_length_le (by rw [sbs_len]; omega)
theorem size_cut50 (s : ByteArray) (h : (50 : Int) ≤ s.size) : (s.extract 0 50).size = 50 := by
 rw [ByteArray.size_extract]
 omega
theorem sto_Text50 {B : Nat} {w w1 : World} {p mb : Nat} {most : Int} {L : List Ent} (hR : Room B w p mb most L 100) (hf : Fr0 w w1) (s : ByteArray) (hs : s.size ≤ 50) (cap : Nat) (f : Nat × Nat) (h1 : s.size ≤ cap) (h2 : cap ≤ 9223372036854775807) (H : Nat) (hH : w1.heap.size = H) :
    Calls Tryz.prog 9 #[.pointer (some ⟨p, 0, none⟩), .slice (some ⟨H, 0, none⟩) s.size cap] (w1.alloc (.cells (bytesRow s cap) 5 f)).drew fun e w' => ∃ v, e = .returned (.tuple #[v, .nilIface]) ∧ CtPost B w p mb most L (sbs s) v .nilIface w' := by
 have F := (hf.alloc (.cells (bytesRow s cap) 5 f)).drew
 refine (sto_TextN (sbs_len s) ((hR.less (m := 2 * s.size) (by omega)).kept0 F) H 0 cap (bytes_convH _ _ hH s cap f) (by omega) h1 h2).mono ?_
 rintro e w' ⟨L2, z, dz, kz, rfl, hS, hK, hg, hb, hz⟩
 exact ⟨_, rfl, rfl, L2, z, dz, kz, rfl, hS, (Kp.of0 F).trans hK, hg, hb, by omega⟩
structure FtR (B : Nat) (w wr : World) (p mb : Nat) (most : Int) (L : List Ent) (v : Value) (L' : List Ent) (cs : List Chg) (dn : List PC) (k : Nat) : Prop where
 st : Sto B wr p mb most L'
 kp : Kp B mb w wr
 grows : Grows L L' (100 * k)
 own : wr.ownsRow w.heap.size 55 3 v cs.length (cs.flatMap Chg.vals)
 all : PChg L' cs dn
theorem tpost_kept0 {B : Nat} {w : World} {p mb : Nat} {most : Int} {L : List Ent} {ps : List PC} {N : Nat} {e : Ending} {w' W : World} (h : ToPost B w p mb most L ps N e w') (hf : Fr0 w' W) : ToPost B w p mb most L ps N e W := by
 obtain ⟨L', v, cs, k, h1, h2, h3, h4, h5, h6, h7⟩ := h
 exact ⟨L', v, cs, k, h1, h2.kept0 hf, h3.trans (Kp.of0 hf), h4, h5, hf.owns h6, h7⟩
set_option maxRecDepth 100000 in
set_option maxHeartbeats 4000000 in
theorem law43_fit {B : Nat} {w : World} {p mb : Nat} {most : Int} {L : List Ent} {ps : List PS} {a : Option Addr} {cap : Nat} {T : Int} (hR : Room B w p mb most L 800) (hA : RG PS.vals 3 B w a ps) (hT0 : -1 ≤ T) (hT1 : T ≤ 1152921504606846976) :
    Calls Tryz.prog 12 #[.pointer (some ⟨p, 0, none⟩), .int .i64 T, .slice a ps.length cap] w (ToPost B w p mb most L (ftL T 8 0 ps) 800) := by
 have HR := Lib.hid hR
 have HA := Lib.hid hA
 obtain ⟨RES, hres⟩ : ∃ RES, ftL T 8 0 ps = RES := ⟨_, rfl⟩
 rw [hres]
 have H0 : Hid (FtR B w w p mb most L (.slice none 0 0) L [] [] 0) := ⟨hR.st, Kp.refl _ _ _, (Grows.refl hR.sok hR.dok).le (by omega), World.ownsRow_nil _ _ _ _, trivial⟩
 have HRES := Lib.hid hres
 clear hR hA hres
 go_enter Tryz.func12, Tryz.ntmps12
 go_wp2_with fail
 go_loopw [8, 9, 18] (fun v t i wr => ∃ (k : Nat) (at_ : Int) (L' : List Ent) (cs : List Chg) (dn : List PC), k ≤ ps.length ∧ k ≤ 8 ∧ i = .int .i64 k ∧ t = .int .i64 at_ ∧ 0 ≤ at_ ∧ at_ ≤ T + 1 ∧ Hid (dn ++ ftL T (8 - k) at_ (ps.drop k) = RES) ∧ cs.length ≤ k ∧ FtR B w wr p mb most L v L' cs dn k) (fun _ _ i _ => ps.length - (intOf i).toNat)
 case atStart => exact ⟨0, 0, L, [], [], Nat.zero_le _, Nat.zero_le _, rfl, rfl, by omega, by omega, by have := HRES.out; exact this, Nat.le_refl _, H0.out⟩
 case round =>
  obtain ⟨k, at_, L', cs, dn, hk, hk8, rfl, rfl, ha0, ha1, HD, hcl, hr⟩ := hrel
  clear H0
  have HEND : Hid (100 * k ≤ 800 → ftL T (8 - k) at_ (ps.drop k) = [] → ToPost B w p mb most L RES 800 (.returned (.tuple #[u8, .bool true])) wr) := fun _ h => by
   have h1 := HD.out
   rw [h, List.append_nil] at h1
   subst h1
   exact ⟨L', u8, cs, _, rfl, hr.st, hr.kp, hr.grows, by omega, hr.own, hr.all⟩
  by_cases hlt : k < ps.length
  · obtain ⟨b, off, rfl, lb, _, hc⟩ := (HA.out.keptK hr.kp) k hlt
    have c0 := hc 0 _ rfl
    have c1 := hc 1 _ rfl
    have c2 := hc 2 _ rfl
    rw [Nat.add_zero] at c0
    have hdr : ps.drop k = ps[k] :: ps.drop (k + 1) := List.drop_eq_getElem_cons hlt
    have HDR := Lib.hid hdr
    clear hdr hc
    by_cases h8 : k < 8
    · by_cases hT : at_ ≤ T
      · have z8 : ((k : Int) == 8) = false := by rw [beq_eq_false_iff_ne]; omega
        have zT : decide (T < at_) = false := decide_eq_false (by omega)
        generalize ps[k] = c at *
        obtain ⟨f1, f2⟩ := ft_rng hT c.at_
        obtain ⟨f, hf⟩ : ∃ f, uW c.at_ % (T - at_ + 1) = f := ⟨_, rfl⟩
        rw [hf] at f1 f2
        obtain ⟨n1, n2⟩ := ft_rng f2 c.n
        obtain ⟨n, hn⟩ : ∃ n, uW c.n % (T - (at_ + f) + 1) = n := ⟨_, rfl⟩
        rw [hn] at n1 n2
        have HF := Lib.hid hf
        have HN := Lib.hid hn
        clear hf hn
        go_upto_region 7 with fail
        go_cut [12] (fun s12 wx => s12 = .int .i64 (at_ + f) ∧ wr.alloc (.cells #[.int .i64 c.at_, .int .i64 c.n, .string c.s] 65 (0, 0)) = wx)
        case first =>
         have q0 : IntKind.i64.wrap (T - at_) = T - at_ := IntWalk.i64_in _ (by omega)
         have q1 : IntKind.i64.wrap (T - at_ + 1) = T - at_ + 1 := IntWalk.i64_in _ (by omega)
         have q2 : IntKind.u64.wrap (T - at_ + 1) = T - at_ + 1 := IntWalk.u64_in _ (by omega)
         have q3 : (T - at_ + 1 == 0) = false := by rw [beq_eq_false_iff_ne]; omega
         have q4 : (IntKind.u64.wrap c.at_).tmod (T - at_ + 1) = f := by rw [uW_tmod _ _ (by omega)]; exact HF.out
         clear HR HA HRES hr HEND HD
         go_wp2_with fail
         go_meet
         exact ⟨rfl, rfl⟩
        case rest =>
        obtain ⟨rfl, rfl⟩ := hcut
        go_upto_region 8 with fail
        go_cut [13] (fun s13 wx => s13 = .int .i64 n ∧ wr.alloc (.cells #[.int .i64 c.at_, .int .i64 c.n, .string c.s] 65 (0, 0)) = wx)
        case first =>
         have q0 : IntKind.i64.wrap (T - (at_ + f)) = T - (at_ + f) := IntWalk.i64_in _ (by omega)
         have q1 : IntKind.i64.wrap (T - (at_ + f) + 1) = T - (at_ + f) + 1 := IntWalk.i64_in _ (by omega)
         have q2 : IntKind.u64.wrap (T - (at_ + f) + 1) = T - (at_ + f) + 1 := IntWalk.u64_in _ (by omega)
         have q3 : (T - (at_ + f) + 1 == 0) = false := by rw [beq_eq_false_iff_ne]; omega
         have q4 : (IntKind.u64.wrap c.n).tmod (T - (at_ + f) + 1) = n := by rw [uW_tmod _ _ (by omega)]; exact HN.out
         clear HR HA HRES hr HEND HD
         go_wp2_with fail
         go_meet
         exact ⟨rfl, rfl⟩
        case rest =>
        obtain ⟨rfl, rfl⟩ := hcut
        have hroom := HR.out.next (k := 100) hr.st hr.kp hr.grows (by omega)
        have HRM := Lib.hid hroom
        clear hroom
        go_upto_region 9 with fail
        go_cut [14, 15] (CtPost B wr p mb most L' ((sbs c.s).take 50))
        case first =>
         clear HR HA HRES hr HEND HD
         by_cases hs : (c.s.size : Int) ≤ (50 : Int)
         · have ex : sbs c.s = (sbs c.s).take 50 := (sbs_all50 c.s hs).symm
           obtain ⟨ccap, cf, hconv, hcap1, hcap2⟩ := conv_bytes (wr.alloc (.cells #[.int .i64 c.at_, .int .i64 c.n, .string c.s] 65 (0, 0))) c.s
           have hcap3 := hcap2 (by unfold maxLen; omega)
           unfold maxLen at hcap3
           have CT := Lib.hid (sto_Text50 HRM.out ((Fr0.refl wr).alloc (.cells #[.int .i64 c.at_, .int .i64 c.n, .string c.s] 65 (0, 0))) c.s (by omega) ccap cf hcap1 hcap3 (wr.heap.size + 1) (by simp))
           conv at CT => rw [ex]
           clear hcap2 ex
           go_wp2_with fail
           (with_reducible refine CT.out.mono ?_)
           rintro e w3 ⟨v, rfl, hv⟩
           have HV := Lib.hid hv
           clear hv CT hconv
           go_wp2_with fail
           go_meet
           exact HV.out
         · have hs2 : (50 : Int) ≤ (c.s.size : Int) := by omega
           have hz := size_cut50 c.s hs2
           have ex : sbs (c.s.extract 0 50) = (sbs c.s).take 50 := sbs_cut50 c.s 50 (by omega)
           obtain ⟨ccap, cf, hconv, hcap1, hcap2⟩ := conv_bytes (wr.alloc (.cells #[.int .i64 c.at_, .int .i64 c.n, .string c.s] 65 (0, 0))) (c.s.extract 0 50)
           have hcap3 := hcap2 (by unfold maxLen; omega)
           unfold maxLen at hcap3
           have CT := Lib.hid (sto_Text50 HRM.out ((Fr0.refl wr).alloc (.cells #[.int .i64 c.at_, .int .i64 c.n, .string c.s] 65 (0, 0))) (c.s.extract 0 50) (by omega) ccap cf hcap1 hcap3 (wr.heap.size + 1) (by simp))
           rw [hz] at CT hconv hcap1
           rw [ex] at CT
           clear hcap2 hz ex
           go_wp2_with fail
           (with_reducible refine CT.out.mono ?_)
           rintro e w3 ⟨v, rfl, hv⟩
           have HV := Lib.hid hv
           clear hv CT hconv
           go_wp2_with fail
           go_meet
           exact HV.out
        case rest =>
        obtain ⟨rfl, L2, z, dz, kz, rfl, hS2, hK2, g2, bz, hkz⟩ := hcut
        rename World => w3
        have hr2 := g2.sok
        have hd2 := g2.dok
        have hni := bz.nil_iff hd2 hr2
        obtain ⟨cb, hcb⟩ : ∃ cb, decide (0 < n ∨ (sbs c.s).take 50 ≠ []) = cb := ⟨_, rfl⟩
        have hz0 : (z != 0) = decide ((sbs c.s).take 50 ≠ []) := by
         by_cases h : z = 0
         · rw [h, hni.1 h]; rfl
         · have h2 : (sbs c.s).take 50 ≠ [] := fun e => h (hni.2 e)
           rw [decide_eq_true h2, bne_iff_ne]; exact h
        have HS : Hid (∀ v' w' cs' dn', w'.ownsRow w.heap.size 55 3 v' cs'.length (cs'.flatMap Chg.vals) → Sto B w' p mb most L2 → Kp B mb w w' → PChg L2 cs' dn' → FtR B w w' p mb most L v' L2 cs' dn' (k + 1)) := fun v' w' cs' dn' h1 h2 h3 h4 => ⟨h2, h3, hr.grows.trans g2 (by omega), h1, h4⟩
        have ho3 := hK2.owns hr.own (by decide) (by decide)
        have hp3 := hr.all.more g2 hr.grows.dok
        have hk3 := hr.kp.trans hK2
        have HH := Lib.hid (show w.heap.size ≤ w3.heap.size from hk3.size)
        have HO3 := Lib.hid ho3
        have HP3 := Lib.hid hp3
        have HK3 := Lib.hid hk3
        have HS2 := Lib.hid hS2
        have HBZ := Lib.hid bz
        have HCB := Lib.hid hcb
        have HZ0 := Lib.hid hz0
        clear hr2 hd2 hni hcb hz0 ho3 hp3 hk3 hS2 hK2 g2 bz hr HEND HRM HR HA HRES lb c0 c1 c2
        go_upto_region 12 with fail
        go_cut [72] (fun s72 wx => s72 = .bool cb ∧ w3 = wx)
        case first =>
         by_cases hn0 : 0 < n
         · have hcb := HCB.out
           rw [decide_eq_true (.inl hn0)] at hcb
           subst hcb
           clear HD HS HO3 HP3 HK3 HS2 HBZ HCB HZ0
           go_wp2_with fail
           go_meet
           exact ⟨rfl, rfl⟩
         · have hcb : (z != 0) = cb := by
             have h1 := HCB.out
             rw [HZ0.out, ← h1]
             congr 1
             simp [hn0]
           have z1 : decide (0 < n) = false := decide_eq_false hn0
           clear HD HS HO3 HP3 HK3 HS2 HBZ HCB HZ0
           go_wp2_with fail
           go_meet
           exact ⟨rfl, rfl⟩
        case rest =>
        obtain ⟨rfl, rfl⟩ := hcut
        cases cb with
        | true =>
         have hd : Hid ((dn ++ [⟨at_ + f, n, (sbs c.s).take 50⟩]) ++ ftL T (8 - (k + 1)) (at_ + f + n + 1) (ps.drop (k + 1)) = RES) := by
          have h1 := HD.out
          rw [HDR.out, ft_take h8 hT HF.out HN.out (of_decide_eq_true HCB.out)] at h1
          rw [← h1, List.append_assoc]
          rfl
         have hbs := HH.out
         have ho3 := HO3.out
         clear HD HCB HZ0 HF HN HDR
         go_wp2_with (at_builtin; refine wpList_pushG rt_chg rfl _ _ rfl w.heap.size _ cs rfl ho3 hbs 55 ⟨at_ + f, n, z⟩ #[.int .i64 (at_ + f), .int .i64 n, .int .i64 z] rfl rfl (by simp [Chg.vals, Value.oneCell']) 1 _ rfl rfl (by omega) (by omega) ?_; intro v' w4 hO4 hg4 hat4)
         have hX := HS.out v' w4 (cs ++ [⟨at_ + f, n, z⟩]) (dn ++ [⟨at_ + f, n, (sbs c.s).take 50⟩]) hO4 (HS2.out.push ho3 (by decide) (by decide) hg4) ((HK3.out.alloc _).grown hg4 (fun j hj => (ho3.lt j hj).1)) (HP3.out.snoc (c := ⟨at_ + f, n, z⟩) (p := ⟨at_ + f, n, (sbs c.s).take 50⟩) rfl rfl HBZ.out)
         have HX := Lib.hid hX
         clear hX HS HO3 HP3 HK3 HS2 HBZ ho3 hbs hO4 hg4 hat4
         go_wp2_with fail
         go_roundw
         case rel => exact ⟨k + 1, at_ + f + n + 1, L2, cs ++ [⟨at_ + f, n, z⟩], dn ++ [⟨at_ + f, n, (sbs c.s).take 50⟩], by omega, by omega, by go_num, rfl, by omega, by omega, hd, by rw [List.length_append]; show cs.length + 1 ≤ _; omega, HX.out⟩
         case measure => simp [intOf]; omega
        | false =>
         have hd : Hid (dn ++ ftL T (8 - (k + 1)) at_ (ps.drop (k + 1)) = RES) := by
          have h1 := HD.out
          rw [HDR.out, ft_skip h8 hT HF.out HN.out (of_decide_eq_false HCB.out)] at h1
          exact h1
         have HX := Lib.hid (HS.out _ w3 cs dn HO3.out HS2.out HK3.out HP3.out)
         clear HS HO3 HP3 HK3 HS2 HBZ HCB HZ0 HF HN HDR HD
         go_wp2_with fail
         go_roundw
         case rel => exact ⟨k + 1, at_, L2, cs, dn, by omega, by omega, by go_num, rfl, by omega, by omega, hd, by omega, HX.out⟩
         case measure => simp [intOf]; omega
      · have zT : decide (T < at_) = true := decide_eq_true (by omega)
        have z8 : ((k : Int) == 8) = false := by rw [beq_eq_false_iff_ne]; omega
        have HX := Lib.hid (HEND.out (by omega) (ft_stop (by omega) _ _))
        generalize ps[k] = c at *
        clear HR HA HRES hr HEND HD HDR
        go_wp2_with fail
        go_ret2
        exact tpost_kept0 HX.out ((Fr0.refl _).alloc _)
    · have z8 : ((k : Int) == 8) = true := by rw [beq_iff_eq]; omega
      have HX := Lib.hid (HEND.out (by omega) (by rw [show 8 - k = 0 by omega]; rfl))
      generalize ps[k] = c at *
      clear HR HA HRES hr HEND HD HDR
      go_wp2_with fail
      go_ret2
      exact tpost_kept0 HX.out ((Fr0.refl _).alloc _)
  · have HX := Lib.hid (HEND.out (by omega) (by rw [List.drop_of_length_le (by omega)]; exact ft_none _))
    clear HR HA HRES hr HEND HD
    go_wp2_with fail
    go_ret2
    exact HX.out
end Go.Proofs.YtgldjpldldknoaaGreatDoor

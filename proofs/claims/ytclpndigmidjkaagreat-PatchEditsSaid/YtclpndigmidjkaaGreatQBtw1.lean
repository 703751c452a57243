/- The walks of evergreenref37's Between and Compose. -/
import Derived.Test.YtclpndigmidjkaaGreatQBtw0
import Derived.Test.YtclpndigmidjkaaGreatQFrm
import Derived.Test.YtclpndigmidjkaaGreatQR37c
set_option linter.unusedSimpArgs false
set_option linter.unusedVariables false
namespace Go.Proofs.YtclpndigmidjkaaGreat
open Go.RowKit

theorem str_len (t : List Int) : (strOfNums t).size = t.length := by
  show (strOfNums t).data.size = _
  rw [← Array.length_toList, strOfNums_data, List.length_map]
theorem str_empty {t : List Int} : (strOfNums t).toList = [] ↔ t = [] := by
  rw [ByteArray.toList_eq, strOfNums_data, List.map_eq_nil_iff]
theorem str_app (t u : List Int) : strOfNums t ++ strOfNums u = strOfNums (t ++ u) := by
  apply ByteArray.ext
  apply Array.toList_inj.1
  rw [ByteArray.data_append, Array.toList_append, strOfNums_data, strOfNums_data, strOfNums_data, List.map_append]

theorem conv_one (w : World) (x : Int) : (convert 72 9 (.slice (some ⟨w.heap.size, 0, none⟩) 1 1)).run Tryz.prog (w.alloc (.cells #[.int .u8 x] 5 (0, 0))) = .ok (.string (strOfNums [x])) (w.alloc (.cells #[.int .u8 x] 5 (0, 0))) := by
  refine run_convert_bytes_arg _ 72 5 Tryz.underlying72 Tryz.underlying5 w.heap.size 0 1 1 [x] rfl ?_ 9 Tryz.underlying9
  intro i hi
  have : i = 0 := by omega
  subst this
  rw [cell_of_block (alloc_at w _ _ rfl)]
  rfl

/-- What is still to come. -/
def btwK (len next : Int) (tx : List Int) (F : List (Int × Int)) (k : Nat) : List PC := if k ≤ F.length then btw len next tx (F.drop k) else []

theorem btwK_neg {len next : Int} {tx : List Int} {F : List (Int × Int)} {k : Nat} (h : k < F.length) (hc : F[k].2 < 0) : btwK len next tx F k = btwK len next (tx ++ [F[k].1]) F (k + 1) := by
  unfold btwK
  rw [if_pos (by omega), if_pos (by omega), List.drop_eq_getElem_cons h, btw, if_pos hc]
theorem btwK_pos {len next : Int} {tx : List Int} {F : List (Int × Int)} {k : Nat} (h : k < F.length) (hc : ¬ F[k].2 < 0) : btwK len next tx F k = chgIf next F[k].2 tx ++ btwK len (F[k].2 + 1) [] F (k + 1) := by
  unfold btwK
  rw [if_pos (by omega), if_pos (by omega), List.drop_eq_getElem_cons h, btw, if_neg hc]
theorem btwK_end {len next : Int} {tx : List Int} {F : List (Int × Int)} {k : Nat} (h : k = F.length) : btwK len next tx F k = chgIf next len tx ++ btwK len (len + 1) [] F (k + 1) := by
  unfold btwK
  rw [if_pos (by omega), if_neg (by omega), List.drop_of_length_le (by omega), btw, List.append_nil]

structure BtR (w wr : World) (len : Int) (F : List (Int × Int)) (RES : List PC) (ov : Value) (k : Nat) (next : Int) (s : ByteArray) (tx : List Int) (done : List PC) : Prop where
  own : OwnG PS.vals 113 3 w wr ov (done.map PC.ps)
  str : s = strOfNums tx
  res : done ++ btwK len next tx F k = RES
  n0 : 0 ≤ next
  n1 : next ≤ 1152921504606846977
  cnt : done.length ≤ k
  tl : tx.length ≤ k

theorem BtR.ins {w wr w' : World} {len : Int} {F : List (Int × Int)} {RES : List PC} {ov : Value} {k : Nat} {next : Int} {s : ByteArray} {tx : List Int} {done : List PC} (h : BtR w wr len F RES ov k next s tx done) (hf : Fr0 wr w') (hk : k < F.length) (hc : F[k].2 < 0) : BtR w w' len F RES ov (k + 1) next (s ++ strOfNums [F[k].1]) (tx ++ [F[k].1]) done :=
  ⟨h.own.kept0 hf, by rw [h.str, str_app], by rw [← btwK_neg hk hc]; exact h.res, h.n0, h.n1, by have := h.cnt; omega, by rw [List.length_append]; have := h.tl; simp; omega⟩

theorem BtR.skip {w wr w' : World} {len : Int} {F : List (Int × Int)} {RES : List PC} {ov : Value} {k : Nat} {next f : Int} {s : ByteArray} {tx : List Int} {done : List PC} (h : BtR w wr len F RES ov k next s tx done) (hf : Fr0 wr w') (he : btwK len next tx F k = chgIf next f tx ++ btwK len (f + 1) [] F (k + 1)) (h1 : ¬ next < f) (h2 : s.toList = []) (h3 : 0 ≤ f) (h4 : f ≤ 1152921504606846976) : BtR w w' len F RES ov (k + 1) (f + 1) ByteArray.empty [] done := by
  have e2 : tx = [] := str_empty.1 (by rw [← h.str]; exact h2)
  refine ⟨h.own.kept0 hf, rfl, ?_, by omega, by omega, by have := h.cnt; omega, by simp⟩
  rw [← h.res, he, chgIf_no (fun h => h.elim h1 (fun h => h e2)), List.nil_append]

theorem BtR.put {w wr wx w' : World} {len : Int} {F : List (Int × Int)} {RES : List PC} {ov ov' : Value} {k : Nat} {next f : Int} {s : ByteArray} {tx : List Int} {done : List PC} (h : BtR w wr len F RES ov k next s tx done) (he : btwK len next tx F k = chgIf next f tx ++ btwK len (f + 1) [] F (k + 1)) (h1 : next < f ∨ ¬ s.toList = []) (h3 : 0 ≤ f) (h4 : f ≤ 1152921504606846976)
    (hx : Fr0 wr wx) (hO : w'.ownsRow w.heap.size 113 3 ov' (done.map PC.ps ++ [(⟨next, f - next, s⟩ : PS)]).length ((done.map PC.ps ++ [(⟨next, f - next, s⟩ : PS)]).flatMap PS.vals)) (hg : wx.grownBy w' ov.ownBlock) : BtR w w' len F RES ov' (k + 1) (f + 1) ByteArray.empty [] (done ++ [⟨next, f - next, tx⟩]) := by
  have e : (done ++ [(⟨next, f - next, tx⟩ : PC)]).map PC.ps = done.map PC.ps ++ [⟨next, f - next, s⟩] := by
    rw [List.map_append, h.str]; rfl
  have := h.own.grown hx hO hg
  rw [← e] at this
  refine ⟨this, rfl, ?_, by omega, by omega, by have := h.cnt; rw [List.length_append]; simp; omega, by simp⟩
  rw [← h.res, he, chgIf_yes (by
    rcases h1 with h1 | h1
    · exact .inl h1
    · exact .inr (fun e => h1 (by rw [h.str, str_empty]; exact e))), List.append_assoc]

set_option maxRecDepth 100000 in
set_option maxHeartbeats 4000000 in
theorem ref37_Between {B : Nat} {w : World} {a : Option Addr} {cap : Nat} {F : List (Int × Int)} (hA : RG clv 2 B w a F) (hl : F.length ≤ 100000) (len : Int) (hl0 : 0 ≤ len) (hl1 : len ≤ 1152921504606846976) (hF : ∀ c ∈ F, c.2 ≤ 1152921504606846976) {RES : List PC} (hRES : btw len 0 [] F = RES) :
    Calls Tryz.prog 34 #[.int .i64 len, .slice a F.length cap] w fun e w' => ∃ v, e = .returned v ∧ OwnG PS.vals 113 3 w w' v (RES.map PC.ps) := by
  have H0 : Hid (BtR w w len F RES (.slice none 0 0) 0 0 ByteArray.empty [] []) := ⟨OwnG.nil _ _ _ (Fr0.refl w), rfl, by unfold btwK; rw [if_pos (Nat.zero_le _), List.drop_zero]; exact hRES, by omega, by omega, Nat.le_refl _, Nat.le_refl _⟩
  have HA := Lib.hid hA
  have HF := Lib.hid hF
  clear hA hF hRES
  go_enter Tryz.func34, Tryz.ntmps34
  go_wp2_with fail
  go_loopw [5, 6, 7, 8] (fun ov nv tv i wr => ∃ (k : Nat) (next : Int) (s : ByteArray) (tx : List Int) (done : List PC), k ≤ F.length + 1 ∧ i = .int .i64 k ∧ nv = .int .i64 next ∧ tv = .string s ∧ BtR w wr len F RES ov k next s tx done) (fun _ _ _ i _ => F.length + 1 - (intOf i).toNat)
  case atStart => exact ⟨0, 0, _, [], [], Nat.zero_le _, rfl, rfl, rfl, H0.out⟩
  case round =>
    clear H0
    obtain ⟨k, next, s, tx, done, hk, rfl, rfl, rfl, hr⟩ := hrel
    have n0 := hr.n0
    have n1 := hr.n1
    by_cases hlt : k < F.length
    · have q0 : decide (k < F.length) = true := decide_eq_true hlt
      have q0' : decide (k ≤ F.length) = true := decide_eq_true (by omega)
      obtain ⟨b, off, rfl, lb, _, hc⟩ := (HA.out.kept0 hr.own.fr) k hlt
      have c0 := hc 0 _ rfl
      have c1 := hc 1 _ rfl
      rw [Nat.add_zero] at c0
      have hcu := HF.out _ (List.getElem_mem hlt)
      by_cases hneg : F[k].2 < 0
      · have hsz : ¬ 9223372036854775807 < s.size + (strOfNums [F[k].1]).size := by
          have e1 := hr.str
          have e2 := hr.tl
          rw [e1, str_len, str_len]
          simp
          omega
        have HN := Lib.hid (fun w' hf => hr.ins (w' := w') hf hlt hneg)
        clear hr hc HA HF
        generalize F[k] = c at *
        obtain ⟨x, f⟩ := c
        dsimp only at *
        have q1 : decide (f < 0) = true := decide_eq_true hneg
        have hcv := conv_one wr x
        go_wp2_with fail
        have HX := HN.out _ ((Fr0.refl wr).alloc (.cells #[.int .u8 x] 5 (0, 0)))
        go_roundw
        case rel => exact ⟨k + 1, next, _, _, done, by omega, by go_num, rfl, rfl, HX⟩
        case measure => simp [intOf]; omega
      · have he0 := btwK_pos (len := len) (next := next) (tx := tx) hlt hneg
        clear hc HA HF
        generalize F[k] = c at *
        obtain ⟨x, f⟩ := c
        dsimp only at *
        have q1 : decide (f < 0) = false := decide_eq_false hneg
        have he := he0
        by_cases hnf : next < f
        · have q2 : decide (next < f) = true := decide_eq_true hnf
          have hon : next < f ∨ ¬ s.toList = [] := .inl hnf
          clear hnf
          have hrow := hr.own.row
          have HR := Lib.hid hr
          have HE := Lib.hid he
          have HON := Lib.hid hon
          have hbs : w.heap.size ≤ wr.heap.size := Fr.size hr.own.fr
          have hxl : (done.map PC.ps).length ≤ 1000000 := by rw [List.length_map]; have := hr.cnt; omega
          clear hr he hon he0
          generalize hys : done.map PC.ps = ys at hrow hxl
          have HYS := Lib.hid hys
          clear hys
          go_wp2_with (at_builtin; refine wpList_pushG (vals := PS.vals) rt_ps rfl _ _ rfl w.heap.size _ ys rfl hrow hbs 113 ⟨next, f - next, s⟩ #[.int .i64 next, .int .i64 (f - next), .string s] rfl rfl (by simp [PS.vals, Value.oneCell']) 1 _ rfl rfl (by omega) hxl ?_; intro v' w4 hO4 hg4 hat4)
          rw [← HYS.out] at hO4
          have HX := HR.out.put HE.out HON.out (by omega) (by omega) ((Fr0.refl wr).alloc _) hO4 hg4
          go_roundw
          case rel => exact ⟨k + 1, f + 1, _, [], _, by omega, by go_num, rfl, rfl, HX⟩
          case measure => simp [intOf]; omega
        · have q2 : decide (next < f) = false := decide_eq_false hnf
          by_cases hse : s.toList = []
          · have q3 : s.toList.isEmpty = true := by rw [hse]; rfl
            have HX := Lib.hid (hr.skip (Fr0.refl wr) he hnf hse (by omega) (by omega))
            clear hr he hnf he0
            go_wp2_with fail
            go_roundw
            case rel => exact ⟨k + 1, f + 1, _, [], done, by omega, by go_num, rfl, rfl, HX.out⟩
            case measure => simp [intOf]; omega
          · have q3 : s.toList.isEmpty = false := tl_some hse
            have hon : next < f ∨ ¬ s.toList = [] := .inr hse
            clear hnf
            have hrow := hr.own.row
            have HR := Lib.hid hr
            have HE := Lib.hid he
            have HON := Lib.hid hon
            have hbs : w.heap.size ≤ wr.heap.size := Fr.size hr.own.fr
            have hxl : (done.map PC.ps).length ≤ 1000000 := by rw [List.length_map]; have := hr.cnt; omega
            clear hr he hon he0
            generalize hys : done.map PC.ps = ys at hrow hxl
            have HYS := Lib.hid hys
            clear hys
            go_wp2_with (at_builtin; refine wpList_pushG (vals := PS.vals) rt_ps rfl _ _ rfl w.heap.size _ ys rfl hrow hbs 113 ⟨next, f - next, s⟩ #[.int .i64 next, .int .i64 (f - next), .string s] rfl rfl (by simp [PS.vals, Value.oneCell']) 1 _ rfl rfl (by omega) hxl ?_; intro v' w4 hO4 hg4 hat4)
            rw [← HYS.out] at hO4
            have HX := HR.out.put HE.out HON.out (by omega) (by omega) ((Fr0.refl wr).alloc _) hO4 hg4
            go_roundw
            case rel => exact ⟨k + 1, f + 1, _, [], _, by omega, by go_num, rfl, rfl, HX⟩
            case measure => simp [intOf]; omega
    · have q0 : decide (k < F.length) = false := decide_eq_false hlt
      by_cases hke : k = F.length
      · have q0' : decide (k ≤ F.length) = true := decide_eq_true (by omega)
        have he0 := btwK_end (len := len) (next := next) (tx := tx) hke
        have hk3 : k ≤ F.length := by omega
        clear HA HF hke
        have he := he0
        by_cases hnf : next < len
        · have q2 : decide (next < len) = true := decide_eq_true hnf
          have hon : next < len ∨ ¬ s.toList = [] := .inl hnf
          clear hnf
          have hrow := hr.own.row
          have HR := Lib.hid hr
          have HE := Lib.hid he
          have HON := Lib.hid hon
          have hbs : w.heap.size ≤ wr.heap.size := Fr.size hr.own.fr
          have hxl : (done.map PC.ps).length ≤ 1000000 := by rw [List.length_map]; have := hr.cnt; omega
          clear hr he hon he0
          generalize hys : done.map PC.ps = ys at hrow hxl
          have HYS := Lib.hid hys
          clear hys
          go_wp2_with (at_builtin; refine wpList_pushG (vals := PS.vals) rt_ps rfl _ _ rfl w.heap.size _ ys rfl hrow hbs 113 ⟨next, len - next, s⟩ #[.int .i64 next, .int .i64 (len - next), .string s] rfl rfl (by simp [PS.vals, Value.oneCell']) 1 _ rfl rfl (by omega) hxl ?_; intro v' w4 hO4 hg4 hat4)
          rw [← HYS.out] at hO4
          have HX := HR.out.put HE.out HON.out (by omega) (by omega) ((Fr0.refl wr).alloc _) hO4 hg4
          go_roundw
          case rel => exact ⟨k + 1, len + 1, _, [], _, by omega, by go_num, rfl, rfl, HX⟩
          case measure => simp [intOf]; omega
        · have q2 : decide (next < len) = false := decide_eq_false hnf
          by_cases hse : s.toList = []
          · have q3 : s.toList.isEmpty = true := by rw [hse]; rfl
            have HX := Lib.hid (hr.skip (Fr0.refl wr) he hnf hse (by omega) (by omega))
            clear hr he hnf he0
            go_wp2_with fail
            go_roundw
            case rel => exact ⟨k + 1, len + 1, _, [], done, by omega, by go_num, rfl, rfl, HX.out⟩
            case measure => simp [intOf]; omega
          · have q3 : s.toList.isEmpty = false := tl_some hse
            have hon : next < len ∨ ¬ s.toList = [] := .inr hse
            clear hnf
            have hrow := hr.own.row
            have HR := Lib.hid hr
            have HE := Lib.hid he
            have HON := Lib.hid hon
            have hbs : w.heap.size ≤ wr.heap.size := Fr.size hr.own.fr
            have hxl : (done.map PC.ps).length ≤ 1000000 := by rw [List.length_map]; have := hr.cnt; omega
            clear hr he hon he0
            generalize hys : done.map PC.ps = ys at hrow hxl
            have HYS := Lib.hid hys
            clear hys
            go_wp2_with (at_builtin; refine wpList_pushG (vals := PS.vals) rt_ps rfl _ _ rfl w.heap.size _ ys rfl hrow hbs 113 ⟨next, len - next, s⟩ #[.int .i64 next, .int .i64 (len - next), .string s] rfl rfl (by simp [PS.vals, Value.oneCell']) 1 _ rfl rfl (by omega) hxl ?_; intro v' w4 hO4 hg4 hat4)
            rw [← HYS.out] at hO4
            have HX := HR.out.put HE.out HON.out (by omega) (by omega) ((Fr0.refl wr).alloc _) hO4 hg4
            go_roundw
            case rel => exact ⟨k + 1, len + 1, _, [], _, by omega, by go_num, rfl, rfl, HX⟩
            case measure => simp [intOf]; omega
      · have q0' : decide (k ≤ F.length) = false := decide_eq_false (by omega)
        have hres := hr.res
        unfold btwK at hres
        rw [if_neg (by omega), List.append_nil] at hres
        have HX := Lib.hid hr.own
        rw [hres] at HX
        clear hr hres HA HF hke
        go_wp2_with fail
        go_ret
        exact ⟨_, rfl, HX.out⟩

theorem Mem.le {n nx : Int} {F : List (Int × Int)} (h : Mem n nx F) (hn : 0 ≤ n) : ∀ c ∈ F, c.2 ≤ n := by
  intro c hc
  by_cases h0 : c.2 < 0
  · omega
  · have hk : c.2 ∈ keptF F := List.mem_map.2 ⟨c, List.mem_filter.2 ⟨hc, decide_eq_true (by omega)⟩, rfl⟩
    have := (h.rng _ hk).2
    omega

theorem runC_snoc (f : Int) (n : Nat) : runC f (n + 1) = runC f n ++ [(63, f + (n : Int))] := by
  unfold runC
  rw [List.range_succ, List.map_append]
  rfl

theorem OwnG.read {α : Type} {vals : α → List Value} {T : TypeId} {size : Nat} {w0 w : World} {a : Option Addr} {n cap : Nat} {xs : List α} (h : OwnG vals T size w0 w (.slice a n cap) xs) (hv : ∀ x ∈ xs, (vals x).length = size) (B : Nat) (h1 : T ≠ 121) (h2 : T ≠ 183) : RG vals size B w a xs := by
  obtain ⟨a', cap', e, hr⟩ := rg_of_own (B := B) hv h.row h1 h2
  simp only [Value.slice.injEq] at e
  obtain ⟨rfl, _, _⟩ := e
  exact hr

set_option maxRecDepth 100000 in
set_option maxHeartbeats 2000000 in
theorem ref37_Compose {B : Nat} {w : World} (n : Nat) {pa qa : Option Addr} {pcap qcap : Nat} {ps qs : List PS} (hA : RG PS.vals 3 B w pa ps) (hA' : RG PS.vals 3 B w qa qs) (hn : n ≤ 100000) (hml : ps.length ≤ 1000) (hml' : qs.length ≤ 1000)
    (hv : validP n (-1) (ps.map PS.pc) = true) {T1 T2 : List (Int × Int)} (h1 : patG embC (runC 0 n) 0 (ps.map PS.pc) = T1) (hl1 : T1.length ≤ 100000) (hv' : validP T1.length (-1) (qs.map PS.pc) = true) (h2 : patG embC T1 0 (qs.map PS.pc) = T2) (hl2 : T2.length ≤ 100000) :
    Calls Tryz.prog 28 #[.int .i64 n, .slice pa ps.length pcap, .slice qa qs.length qcap] w fun e w' => ∃ v, e = .returned v ∧ OwnG PS.vals 113 3 w w' v ((btw n 0 [] T2).map PC.ps) := by
  have hm1 : Mem n 0 T1 := by rw [← h1]; exact (Mem.run n).pat (by rw [runC_len]; exact hv)
  have hm2 : Mem n 0 T2 := by rw [← h2]; exact hm1.pat hv'
  have hm3 := hm2.le (by omega)
  have CA1 := Lib.hid (fun W (hW : Fr0 w W) tv (hT : OwnG clv 149 2 w W tv (runC 0 n)) => ref37_Apply (pcap := pcap) tv (runC 0 n) (owns_low hT.row (Nat.zero_le _)) pa ps (hA.kept0 hW) (by rw [runC_len]; exact hv) T1 h1 (by omega) (by rw [runC_len]; omega) hml)
  have CA2 := Lib.hid (fun W (hW : Fr0 w W) tv w1 (hT : OwnG clv 149 2 w1 W tv T1) => ref37_Apply (pcap := qcap) tv T1 (owns_low hT.row (Nat.zero_le _)) qa qs (hA'.kept0 hW) hv' T2 h2 (by omega) (by omega) hml')
  have CB := Lib.hid (fun W w1 a cap (hT : OwnG clv 149 2 w1 W (.slice a T2.length cap) T2) => ref37_Between (cap := cap) (hT.read (fun _ _ => rfl) 0 (by decide) (by decide)) (by omega) n (by omega) (by omega) (fun c hc => by have := hm3 c hc; omega) rfl)
  clear hA hA' hv h1 hv' h2 hm1 hm2 hm3
  go_enter Tryz.func28, Tryz.ntmps28
  go_wp2_with fail
  go_loopw [7, 10] (fun v i wr => ∃ k : Nat, k ≤ n ∧ i = .int .i64 k ∧ OwnG clv 149 2 w wr v (runC 0 k)) (fun _ i _ => n - (intOf i).toNat)
  case atStart => exact ⟨0, Nat.zero_le _, rfl, OwnG.nil _ _ _ (Fr0.refl w)⟩
  case round =>
    obtain ⟨k, hk, rfl, hO⟩ := hrel
    by_cases hlt : k < n
    · have hS := Lib.hid (runC_snoc 0 k)
      have HO := Lib.hid hO
      have hrow := hO.row
      have hbs : w.heap.size ≤ wr.heap.size := Fr.size hO.fr
      have hxl : (runC 0 k).length ≤ 1000000 := by rw [runC_len]; omega
      have q0 : decide (k < n) = true := decide_eq_true hlt
      clear hO
      generalize runC 0 k = xs at *
      go_wp2_with (at_builtin; refine wpList_pushG (vals := clv) rt_cell rfl _ _ rfl w.heap.size _ xs rfl hrow hbs 149 ((63 : Int), (k : Int)) #[.int .u8 63, .int .i64 k] rfl rfl (by simp [clv, Value.oneCell']) 1 _ rfl rfl (by omega) hxl ?_; intro v' w4 hO4 hg4 hat4)
      have hX := HO.out.grown ((Fr0.refl _).alloc _) hO4 hg4
      go_roundw
      case rel => exact ⟨k + 1, by omega, by go_num, by rw [hS.out, Int.zero_add]; exact hX⟩
      case measure => simp [intOf]; omega
    · have hkn : k = n := by omega
      rw [hkn] at hO
      have CX := Lib.hid (CA1.out _ hO.fr _ hO)
      have HF := Lib.hid hO.fr
      have q0 : decide (k < n) = false := decide_eq_false hlt
      clear hkn hO CA1
      go_wp2_with fail
      refine CX.out.mono ?_
      rintro e w2 ⟨v2, rfl, hO2⟩
      have CX2 := Lib.hid (CA2.out _ (HF.out.trans hO2.fr) _ _ hO2)
      have HF2 := Lib.hid (HF.out.trans hO2.fr)
      clear hO2 CX CA2
      go_wp2_with fail
      refine CX2.out.mono ?_
      rintro e w3 ⟨v3, rfl, hO3⟩
      obtain ⟨a3, c3, rfl⟩ := hO3.form
      have CX3 := Lib.hid (CB.out _ _ _ _ hO3)
      have HF3 := Lib.hid (HF2.out.trans hO3.fr)
      clear hO3 CX2 CB
      go_wp2_with fail
      refine CX3.out.mono ?_
      rintro e w4 ⟨v4, rfl, hO4⟩
      have HX := Lib.hid (hO4.base HF3.out)
      clear hO4 CX3
      go_wp2_with fail
      go_ret
      exact ⟨_, rfl, HX.out⟩

end Go.Proofs.YtclpndigmidjkaaGreat

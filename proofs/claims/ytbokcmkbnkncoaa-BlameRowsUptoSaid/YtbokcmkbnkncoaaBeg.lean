/- The walk of begun. -/
import Derived.Test.YtbokcmkbnkncoaaBl4
import Derived.Lib.SlBytesConst
set_option linter.unusedSimpArgs false
set_option linter.unusedVariables false
namespace Go.Proofs.Ytbokcmkbnkncoaa
open Go.RowKit

/-- The letters of begun. -/
def uvw : List Int := [117, 118, 119, 120, 121, 122, 85, 86, 87]

/-- The IDs of the texts of 0 to n - 1 letters. -/
structure TextsOk (L : List Ent) (ids : List Int) : Prop where
  zero : ∀ h : 0 < ids.length, ids[0] = 0
  rest : ∀ i (h : i < ids.length), 1 ≤ i → isKnown L ids[i] ∧ ids[i] ≠ 0 ∧ (entAt L ids[i]).wt.len = i ∧ (entAt L ids[i]).even = true

theorem TextsOk.nil (L : List Ent) : TextsOk L [] := ⟨fun h => by simp at h, fun i h => by simp at h⟩

theorem TextsOk.more {L : List Ent} {ids : List Int} (h : TextsOk L ids) (M : List Ent) : TextsOk (L ++ M) ids :=
  ⟨h.zero, fun i hi h1 => by
    obtain ⟨a, b, c, d⟩ := h.rest i hi h1
    rw [entAt_append L M _ a]
    exact ⟨isKnown_append M a, b, c, d⟩⟩

theorem TextsOk.push {L : List Ent} {ids : List Int} (h : TextsOk L ids) (id : Int) (h0 : ids.length = 0 → id = 0) (h1 : 1 ≤ ids.length → isKnown L id ∧ id ≠ 0 ∧ (entAt L id).wt.len = ids.length ∧ (entAt L id).even = true) : TextsOk L (ids ++ [id]) := by
  refine ⟨fun hl => ?_, fun i hi h2 => ?_⟩
  · rcases Nat.eq_zero_or_pos ids.length with e | e
    · have : ids = [] := List.eq_nil_of_length_eq_zero e
      subst this
      simpa using h0 rfl
    · rw [List.getElem_append_left e]; exact h.zero e
  · rcases Nat.lt_or_ge i ids.length with e | e
    · rw [List.getElem_append_left e]; exact h.rest i e h2
    · have : i = ids.length := by simp at hi; omega
      subst this
      rw [List.getElem_append_right (Nat.le_refl _)]
      simpa using h1 h2

theorem info_id : (Try.prog.info? 44).map (fun i => (i.zero, i.size, i.bytes)) = some (some (.int .i64 0), 1, 8) := by kernel_rfl

/-- The state of begun's loop. -/
structure Beg (w0 w : World) (q p mb : Nat) (ids : List Int) (L : List Ent) : Prop where
  frame : Fr0 w0 w
  st : ∃ sv, St w p mb 1048576 sv L ∧ ∀ k, sv.ownBlock = some k → w0.heap.size ≤ k
  wptr : ∃ tv, w.heap[q]? = some (.cells #[.pointer (some ⟨p, 0, none⟩), tv, .int .i64 0] 46 (0, 0)) ∧ w.ownsRow 0 44 1 tv ids.length (ids.map fun x => .int .i64 x) ∧ ∀ k, tv.ownBlock = some k → w0.heap.size ≤ k
  new : w0.heap.size ≤ q ∧ w0.heap.size ≤ p ∧ w0.heap.size ≤ mb
  sok : SOk L
  dok : DOk L
  small : L.length ≤ 2 * (ids.length * ids.length)
  ids : TextsOk L ids

/-- What begun leaves. -/
structure Begun (w0 w : World) (q p mb : Nat) (ids : List Int) (pw : Int) (L : List Ent) : Prop where
  frame : Fr0 w0 w
  st : ∃ sv, St w p mb 1048576 sv L ∧ ∀ k, sv.ownBlock = some k → w0.heap.size ≤ k
  wptr : ∃ tv, w.heap[q]? = some (.cells #[.pointer (some ⟨p, 0, none⟩), tv, .int .i64 pw] 46 (0, 0)) ∧ w.ownsRow 0 44 1 tv 10 (ids.map fun x => .int .i64 x) ∧ ∀ k, tv.ownBlock = some k → w0.heap.size ≤ k
  new : w0.heap.size ≤ q ∧ w0.heap.size ≤ p ∧ w0.heap.size ≤ mb
  sok : SOk L
  dok : DOk L
  small : L.length ≤ 1000
  len : ids.length = 10
  ids : TextsOk L ids
  power : isKnown L pw ∧ pw ≠ 0 ∧ (entAt L pw).even = false

def BegunPost (w : World) (e : Ending) (w' : World) : Prop := ∃ q p mb ids pw L, e = .returned (.tuple #[.pointer (some ⟨q, 0, none⟩), .bool true]) ∧ Begun w w' q p mb ids pw L

theorem bytes_uvw (w : World) (n : Nat) (f : Nat × Nat) : BytesAt (w.alloc (.cells #[.int .u8 117, .int .u8 118, .int .u8 119, .int .u8 120, .int .u8 121, .int .u8 122, .int .u8 85, .int .u8 86, .int .u8 87] 5 f)) w.heap.size 0 (uvw.take n) := by
  refine BytesAt.take ⟨⟨_, _, alloc_at _ _ _ rfl, ?_⟩, ?_⟩ n
  · intro i hi
    simp only [uvw, List.length_cons, List.length_nil] at hi
    match i, hi with
    | 0, _ | 1, _ | 2, _ | 3, _ | 4, _ | 5, _ | 6, _ | 7, _ | 8, _ => rfl
  · intro x hx
    simp only [uvw, List.mem_cons, List.not_mem_nil, or_false] at hx
    omega

theorem Stepped.owns {w w' : World} {p mb : Nat} {most : Int} {sv : Value} {L L' : List Ent} (hS : St w p mb most sv L) (h : Stepped w w' p mb most sv L') {base : Nat} {e : TypeId} {size n : Nat} {v : Value} {xs : List Value}
    (ho : w.ownsRow base e size v n xs) (h1 : e ≠ 113) (h2 : e ≠ 107) : w'.ownsRow base e size v n xs := by
  refine ⟨ho.1, ?_⟩
  rcases ho.2 with h3 | ⟨g, cap, cur, h3, hb, hg, r⟩
  · exact .inl h3
  · exact .inr ⟨g, cap, cur, h3, hb, h.block hS hg h1 h2, r⟩

/-- What one round leaves. -/
structure Mid (wr wx : World) (p mb : Nat) (sv : Value) (L L' : List Ent) (n : Nat) (id : Int) : Prop where
  step : Stepped wr wx p mb 1048576 sv L'
  sok : SOk L'
  dok : DOk L'
  ext : ∃ M, L' = L ++ M
  len : L'.length ≤ L.length + 2 * n
  zero : n = 0 → id = 0
  one : 1 ≤ n → isKnown L' id ∧ id ≠ 0 ∧ (entAt L' id).wt.len = n ∧ (entAt L' id).even = true

theorem Mid.of_text {wr wx : World} {p mb : Nat} {sv : Value} {L L' : List Ent} {n : Nat} {id : Int} (hst : Stepped wr wx p mb 1048576 sv L') (hn : 1 ≤ n) (h : TextOk L L' id n) : Mid wr wx p mb sv L L' n id :=
  ⟨hst, h.sok, h.dok, h.ext, by have := h.len; omega, fun h => by omega, fun _ => ⟨h.known, h.ne, h.wlen, h.even⟩⟩

theorem ne_of_types {w : World} {a b : Nat} {c1 c2 : Array Value} {t1 t2 : TypeId} {f1 f2 : Nat × Nat} (h1 : w.heap[a]? = some (.cells c1 t1 f1)) (h2 : w.heap[b]? = some (.cells c2 t2 f2)) (ht : t1 ≠ t2) : a ≠ b := by
  rintro rfl
  rw [h1] at h2
  simp at h2
  exact ht h2.2.1

theorem ne_of_map {w : World} {a b : Nat} {es : Array MapEntry} {c : Nat} {c2 : Array Value} {t2 : TypeId} {f2 : Nat × Nat} (h1 : w.heap[a]? = some (.map es c)) (h2 : w.heap[b]? = some (.cells c2 t2 f2)) : a ≠ b := by
  rintro rfl
  rw [h1] at h2
  simp at h2

theorem owns_block {w : World} {base : Nat} {e : TypeId} {size n : Nat} {v : Value} {xs : List Value} (h : w.ownsRow base e size v n xs) {k : Nat} (hk : v.ownBlock = some k) : ∃ cur, w.heap[k]? = some (.cells cur e (0, 0)) := by
  rcases h.2 with ⟨h1, _⟩ | ⟨g, cap, cur, h1, _, hg, _⟩
  · rw [h1] at hk; simp [Value.ownBlock] at hk
  · rw [h1] at hk
    simp [Value.ownBlock] at hk
    subst hk
    exact ⟨cur, hg⟩

theorem beg_next {w wr wc w1 : World} {q p mb g cap : Nat} {ids : List Int} {L L' : List Ent} {id : Int} {sv tv : Value} {o : Obj} (hb : Beg w wr q p mb ids L) (hsv : ∀ k, sv.ownBlock = some k → w.heap.size ≤ k) (htv : ∀ k, tv.ownBlock = some k → w.heap.size ≤ k)
    (hT2 : wc.ownsRow 0 44 1 tv ids.length (ids.map fun x => .int .i64 x)) (hq2 : wc.heap[q]? = some (.cells #[.pointer (some ⟨p, 0, none⟩), tv, .int .i64 0] 46 (0, 0)))
    (hm : Mid wr wc p mb sv L L' ids.length id) (hown1 : w1.ownsRow 0 44 1 (.slice (some ⟨g, 0, none⟩) (ids.length + 1) cap) (ids.length + 1) ((ids.map fun x => .int .i64 x) ++ [.int .i64 id]))
    (hgrow : (wc.alloc o).grownBy w1 tv.ownBlock) (hat : tv.ownBlock = some g ∨ g = wc.heap.size + 1) (hag : tv.ownBlock ≠ some q) :
    Beg w (w1.setCell ⟨q, 1, none⟩ (.slice (some ⟨g, 0, none⟩) (ids.length + 1) cap)) q p mb (ids ++ [id]) L' := by
  obtain ⟨sv3, hS3, hfA, hv3⟩ := hm.step
  obtain ⟨n1, n2, n3⟩ := hb.new
  have f1 : Fr0 w wc := Fr.trans hb.frame hfA (by
    rintro i (h | h | h) hlt
    · omega
    · omega
    · have := hsv i h; omega)
  have f2 : Fr (fun k => k = q ∨ tv.ownBlock = some k) wc (w1.setCell ⟨q, 1, none⟩ (.slice (some ⟨g, 0, none⟩) (ids.length + 1) cap)) :=
    (((Fr.refl _ wc).alloc o).grown hgrow (fun k hk _ => .inr hk)).setCell _ _ (fun _ => .inl rfl)
  have f3 : Fr0 w (w1.setCell ⟨q, 1, none⟩ (.slice (some ⟨g, 0, none⟩) (ids.length + 1) cap)) := Fr.trans f1 f2 (by
    rintro i (h | h) hlt
    · omega
    · have := htv i h; omega)
  have lq := lt_of_block hq2
  have h1 : w1.heap[q]? = some (.cells #[.pointer (some ⟨p, 0, none⟩), tv, .int .i64 0] 46 (0, 0)) :=
    (hgrow.block q (by simp; omega) (fun e => hag e.symm)).trans ((alloc_lt wc o q lq).trans hq2)
  obtain ⟨gc, hgc⟩ := owns_block hown1 (k := g) rfl
  have hgq : g ≠ q := ne_of_types hgc h1 (by decide)
  have hsz := f1.size'
  refine ⟨f3, ⟨sv3, hS3.kept f2 ?_ ?_ ?_, ?_⟩, ⟨_, setCell_block h1 1 _, ?_, ?_⟩, hb.new, hm.sok, hm.dok, ?_, ?_⟩
  · rintro (h | h)
    · exact ne_of_types hS3.ptr hq2 (by decide) h
    · obtain ⟨cur, hc⟩ := owns_block hT2 h
      exact ne_of_types hS3.ptr hc (by decide) rfl
  · rintro (h | h)
    · exact ne_of_map hS3.mp hq2 h
    · obtain ⟨cur, hc⟩ := owns_block hT2 h
      exact ne_of_map hS3.mp hc rfl
  · intro k hk
    obtain ⟨cur, hc⟩ := owns_block hS3.own hk
    rintro (h | h)
    · exact ne_of_types hc hq2 (by decide) h
    · obtain ⟨cur2, hc2⟩ := owns_block hT2 h
      exact ne_of_types hc hc2 (by decide) rfl
  · intro k hk
    rcases hv3 k hk with h | h
    · exact hsv k h
    · have := hb.frame.size'; omega
  · have h2 := owns_set_other hown1 ⟨q, 1, none⟩ (.slice (some ⟨g, 0, none⟩) (ids.length + 1) cap) (by simpa [Value.ownBlock] using hgq)
    simpa using h2
  · intro k hk
    simp [Value.ownBlock] at hk
    subst hk
    rcases hat with h | h
    · exact htv _ h
    · omega
  · have := hm.len
    have := hb.small
    have e : (ids ++ [id]).length * (ids ++ [id]).length = ids.length * ids.length + 2 * ids.length + 1 := by simp [Nat.add_mul, Nat.mul_add]; omega
    rw [e]
    omega
  · obtain ⟨M, hM⟩ := hm.ext
    refine TextsOk.push ?_ id hm.zero hm.one
    rw [hM]
    exact hb.ids.more M

theorem begun_of {w wr w5 : World} {q p mb : Nat} {ids : List Int} {L L' : List Ent} {pw : Int} {sv tv : Value} (hb : Beg w wr q p mb ids L) (hten : ids.length = 10) (hsv : ∀ k, sv.ownBlock = some k → w.heap.size ≤ k) (htv : ∀ k, tv.ownBlock = some k → w.heap.size ≤ k)
    (hst : Stepped wr w5 p mb 1048576 sv L') (hT5 : w5.ownsRow 0 44 1 tv 10 (ids.map fun x => .int .i64 x)) (hq5 : w5.heap[q]? = some (.cells #[.pointer (some ⟨p, 0, none⟩), tv, .int .i64 0] 46 (0, 0)))
    (hp : isKnown L' pw ∧ pw ≠ 0 ∧ (entAt L' pw).even = false) (so : SOk L') (d : DOk L') (ex : ∃ M, L' = L ++ M) (le : L'.length ≤ L.length + 1) :
    Begun w (w5.setCell ⟨q, 2, none⟩ (.int .i64 pw)) q p mb ids pw L' := by
  obtain ⟨sv3, hS3, hfA, hv3⟩ := hst
  obtain ⟨n1, n2, n3⟩ := hb.new
  have f1 : Fr0 w w5 := Fr.trans hb.frame hfA (by
    rintro i (h | h | h) hlt
    · omega
    · omega
    · have := hsv i h; omega)
  have f2 : Fr (fun k => k = q) w5 (w5.setCell ⟨q, 2, none⟩ (.int .i64 pw)) := (Fr.refl _ w5).setCell _ _ (fun _ => rfl)
  have f3 : Fr0 w (w5.setCell ⟨q, 2, none⟩ (.int .i64 pw)) := f1.setCell _ _ n1
  have hqt : tv.ownBlock ≠ some q := by
    intro e
    obtain ⟨cur, hc⟩ := owns_block hT5 e
    exact ne_of_types hc hq5 (by decide) rfl
  refine ⟨f3, ⟨sv3, hS3.kept f2 ?_ ?_ ?_, ?_⟩, ⟨tv, setCell_block hq5 2 _, owns_set_other hT5 _ _ hqt, htv⟩, hb.new, so, d, ?_, hten, ?_, hp⟩
  · exact fun h => ne_of_types hS3.ptr hq5 (by decide) h
  · exact fun h => ne_of_map hS3.mp hq5 h
  · intro k hk h
    obtain ⟨cur, hc⟩ := owns_block hS3.own hk
    exact ne_of_types hc hq5 (by decide) h
  · intro k hk
    rcases hv3 k hk with h | h
    · exact hsv k h
    · have := hb.frame.size'; omega
  · have := hb.small
    rw [hten] at this
    omega
  · obtain ⟨M, hM⟩ := ex
    rw [hM]
    exact hb.ids.more M

theorem Begun.kept0 {w0 w w' : World} {q p mb : Nat} {ids : List Int} {pw : Int} {L : List Ent} (h : Begun w0 w q p mb ids pw L) (hf : Fr0 w w') : Begun w0 w' q p mb ids pw L := by
  obtain ⟨sv, h1, h2⟩ := h.st
  obtain ⟨tv, h3, h4, h5⟩ := h.wptr
  exact ⟨h.frame.trans hf, ⟨sv, h1.kept0 hf, h2⟩, ⟨tv, hf.kept h3, hf.owns h4, h5⟩, h.new, h.sok, h.dok, h.small, h.len, h.ids, h.power⟩

theorem BytesAt.drew {w : World} {bb off : Nat} {bs : List Int} (h : BytesAt w bb off bs) : BytesAt w.drew bb off bs := ⟨h.blk, h.rng⟩

set_option maxRecDepth 100000 in
set_option maxHeartbeats 1000000 in
theorem law_begun (w : World) :
    Calls Try.prog 10 #[] w (BegunPost w) := by
  have kc : ∀ (w : World) (C : Array Value) (n c : Nat), (convert 87 87 (.slice (some ⟨w.heap.size, 0, none⟩) n c)).run Try.prog (w.alloc (.cells C 5 (0, 0))).drew = .ok (.slice (some ⟨w.heap.size, 0, none⟩) n c) (w.alloc (.cells C 5 (C.size, C.size + 1))).drew :=
    fun (w : World) (C : Array Value) (n c : Nat) => Lib.run_convert_bytes_const (P := Try.prog) w.drew 87 5 C n c Try.underlying87 Try.underlying5
  obtain ⟨i0, hi0, hz0, hz1, hz2⟩ := info_parts info_id
  have hu : Try.prog.underlying 43 = some (.slice 44) := Try.underlying43
  go_enter Try.func10, Try.ntmps10
  go_wp2_with fail
  refine (st_New _).mono ?_
  rintro e w1 ⟨rfl, hf1, hS1, hz1⟩
  go_wp2_with fail
  have hb0 : Beg w (w1.alloc (.cells #[.pointer (some ⟨w.heap.size + 1, 0, none⟩), .slice none 0 0, .int .i64 0] 46 (0, 0))) (w.heap.size + 2) (w.heap.size + 1) w.heap.size [] [] :=
    ⟨hf1.alloc _, ⟨_, hS1.kept0 ((Fr0.refl _).alloc _), fun k hk => by simp [Value.ownBlock] at hk⟩, ⟨_, alloc_at _ _ _ hz1.symm, World.ownsRow_nil _ _ _ _, fun k hk => by simp [Value.ownBlock] at hk⟩, ⟨by omega, by omega, by omega⟩, SOk.nil, DOk.nil, by simp, TextsOk.nil _⟩
  have HB0 := Lib.hid hb0
  clear hb0 hf1 hS1 hz1
  generalize hq : w.heap.size + 2 = q at *
  generalize hp : w.heap.size + 1 = p at *
  generalize hmb : w.heap.size = mb at *
  clear hq hp hmb
  go_loopw [12] (fun i wr => ∃ ids L, i = .int .i64 (ids.length : Nat) ∧ ids.length ≤ 10 ∧ Beg w wr q p mb ids L) (fun i _ => 10 - (intOf i).toNat)
  case atStart => exact ⟨[], [], rfl, by simp, HB0.out⟩
  case round =>
    obtain ⟨ids, L, rfl, hle, hb⟩ := hrel
    clear HB0
    by_cases hlt : ids.length < 10
    · obtain ⟨sv, hS, hsv⟩ := hb.st
      obtain ⟨tv, hq, hT, htv⟩ := hb.wptr
      obtain ⟨c0, c1, c2, f, l⟩ := cells3 hq
      have hsm := hb.small
      have hq2 : ids.length * ids.length ≤ 81 := Nat.mul_le_mul (show ids.length ≤ 9 by omega) (show ids.length ≤ 9 by omega)
      have e9 : (uvw.take ids.length).length = ids.length := by simp [uvw]; omega
      have CT := Lib.hid (fun (h1 : 1 ≤ ids.length) (W : World) (hW : Fr0 wr W) (hb' : BytesAt W wr.heap.size 0 (uvw.take ids.length)) => bal_Text (hS.kept0 hW) hb.sok hb.dok wr.heap.size 0 ids.length 9 (uvw.take ids.length) hb' e9 h1 (by omega) (by omega) (by omega) (by omega) (by omega))
      have CO := Lib.hid (fun (h1 : 1 ≤ ids.length) => textR_ok ids.length L (uvw.take ids.length) hb.sok hb.dok (by rw [e9]; exact h1) (by omega) (by omega) (bytes_uvw wr ids.length (0, 0)).rng)
      have HB := Lib.hid hb
      have HQ := Lib.hid hq
      have HTV := Lib.hid htv
      have HT := Lib.hid hT
      have HS := Lib.hid hS
      have HSV := Lib.hid hsv
      have E9 := Lib.hid e9
      clear hb hq htv hS hsv hT hsm hq2 e9
      have g1 : (0 : Int) ≤ (ids.length : Int) := by omega
      have g2 : (ids.length : Int) ≤ 9 := by omega
      go_upto_region 5 with fail
      go_cut [4, 5] (fun s4 s5 wx => ∃ (id : Int) (L' : List Ent), s4 = .int .i64 id ∧ s5 = .nilIface ∧ Mid wr wx p mb sv L L' ids.length id)
      case first =>
        by_cases h0 : 1 ≤ ids.length
        · have CO' := Lib.hid (CO.out h0)
          have CT' := Lib.hid (CT.out h0)
          clear CO CT
          generalize (textR ids.length L (uvw.take ids.length)).2 = id at *
          generalize (textR ids.length L (uvw.take ids.length)).1 = L' at *
          go_region_with (go_at_call 26; refine (CT'.out _ ?_ ?_).mono ?_; (exact ((Fr0.refl wr).alloc _).drew); (exact (bytes_uvw wr _ _).drew); rintro e w3 ⟨rfl, hst⟩)
          all_goals
            go_wp2_with fail
            go_meet
            exact ⟨id, L', rfl, rfl, Mid.of_text (hst.before ((Fr0.refl wr).alloc _).drew) h0 (by have := CO'.out; rw [E9.out] at this; exact this)⟩
        · have hz : ids.length = 0 := by omega
          have HZ := Lib.hid hz
          clear hz CO CT
          have hsw : ∀ (W : World) (B : Nat), Calls Try.prog 26 #[.pointer (some ⟨p, 0, none⟩), .slice (some ⟨B, 0, none⟩) ids.length 9] W fun e w' => e = .returned (.tuple #[.int .i64 0, .nilIface]) ∧ W = w' := fun W B => by rw [HZ.out]; exact bal_Text_nil _ _
          have HSW := Lib.hid hsw
          clear hsw
          go_region_with (go_at_call 26; refine (HSW.out _ _).mono ?_; rintro e w3 ⟨rfl, rfl⟩)
          all_goals
            go_wp2_with fail
            go_meet
            exact ⟨0, L, rfl, rfl, Stepped.same HS.out ((Fr0.refl wr).alloc _).drew, HB.out.sok, HB.out.dok, ⟨[], by simp⟩, by omega, fun _ => rfl, fun h => absurd h h0⟩
      case rest =>
        obtain ⟨id, L', rfl, rfl, hmid⟩ := hcut
        have hq2 := hmid.step.block HS.out HQ.out (by decide) (by decide)
        have hT2 := hmid.step.owns HS.out HT.out (by decide) (by decide)
        obtain ⟨c0', c1', c2', f', l'⟩ := cells3 hq2
        have HQ2 := Lib.hid hq2
        have HM := Lib.hid hmid
        clear hmid hq2 c0 c1 c2 f l kc CT CO E9
        have hag : tv.ownBlock ≠ some q := by
          intro e
          rcases hT2.2 with ⟨h1, _⟩ | ⟨g, cap, cur, h1, _, hg, _⟩
          · rw [h1] at e; simp [Value.ownBlock] at e
          · rw [h1] at e
            simp [Value.ownBlock] at e
            rw [e, HQ2.out] at hg; simp at hg
        have hn63 : ids.length + 1 ≤ maxLen := by unfold maxLen; omega
        have hby : (ids.length + 1) * 8 ≤ 140737488355328 := by omega
        go_wp2_with (at_builtin; refine wpList_append_lies _ rfl _ _ _ rfl 0 44 i0 _ 1 8 hu hi0 hz0 hz1 hz2 rfl (by omega) tv ids.length (ids.map fun x => Value.int .i64 x) rfl (hT2.alloc _) ⟨wc.heap.size, 0, none⟩ 1 1 [.int .i64 id] rfl rfl (World.news_of_block (cs := #[.int .i64 id]) (t := 44) (fr := (0, 0)) (heap_alloc_new wc _)) (by simp [Value.oneCell']) (by omega) hn63 hby (by omega) (wc.heap.size + 1) (by simp) ?_; intro g cap w1 hown1 hgrow hat hlt2; have e1 : w1.cell? ⟨q, 1, none⟩ = some tv := (hgrow.cell_far _ (by simp; omega) (Ne.symm hag)).trans ((cellA wc _ q 1 l').trans c1'); have e2 : w1.frozen? ⟨q, 1, none⟩ = false := (hgrow.frozen_far _ (by simp; omega) (Ne.symm hag)).trans ((World.frozen?_of_block (alloc_lt wc _ q l')).trans (f' 1)))
        go_roundw
        case rel => exact ⟨ids ++ [id], L', by simp, by simp; omega, beg_next HB.out HSV.out HTV.out hT2 HQ2.out HM.out hown1 hgrow hat hag⟩
        case measure => simp [intOf]; omega
    · have hten : ids.length = 10 := by omega
      obtain ⟨sv, hS, hsv⟩ := hb.st
      obtain ⟨tv, hq, hT, htv⟩ := hb.wptr
      obtain ⟨c0, c1, c2, f, l⟩ := cells3 hq
      have hsm := hb.small
      rw [hten] at hsm hT
      obtain ⟨t1, t2, t3, t4⟩ := hb.ids.rest 2 (by omega) (by omega)
      have CP := Lib.hid (fun (W : World) (hW : Fr0 wr W) => st_Power (hS.kept0 hW) hb.sok ids[2] 3 t1 t2 (by omega) (by rw [t3]; omega) (by omega) (by omega))
      obtain ⟨tb, tcap, htv2, _, _⟩ := hT.form (by omega)
      subst htv2
      have hcell : wr.cell? ⟨tb, 2, none⟩ = some (.int .i64 ids[2]) := owns_cell hT 2 _ (by rw [List.getElem?_map, List.getElem?_eq_getElem (by omega)]; rfl)
      have PW := Lib.hid (show isKnown (addL L (powEnt L ids[2] 3)) (addI L (powEnt L ids[2] 3)) ∧ addI L (powEnt L ids[2] 3) ≠ 0 ∧ (entAt (addL L (powEnt L ids[2] 3)) (addI L (powEnt L ids[2] 3))).even = false from
        ⟨(addI_known _ _).1, (addI_known _ _).2, by rw [ent_pow hb.dok]; rfl⟩)
      have SO := Lib.hid (hb.sok.pow ids[2] 3 t1 t2 (by omega) (by rw [t3]; omega))
      have DO := Lib.hid (hb.dok.pow ids[2] 3 t1 t2)
      have EX := Lib.hid (addL_ext L (powEnt L ids[2] 3))
      have LE := Lib.hid (addL_len L (powEnt L ids[2] 3)).2
      have HB := Lib.hid hb
      have HQ := Lib.hid hq
      have HTV := Lib.hid htv
      have HT := Lib.hid hT
      have HS := Lib.hid hS
      have HSV := Lib.hid hsv
      have HTEN := Lib.hid hten
      clear hb hq htv hS hsv hT t1 t2 t3 t4 kc hu hz0
      generalize addI L (powEnt L ids[2] 3) = pw at *
      generalize addL L (powEnt L ids[2] 3) = L' at *
      generalize ids[2] = id2 at *
      have hge : 10 ≤ ids.length := by omega
      clear hlt hle hten
      go_upto_region 11 with fail
      go_cut [6] (fun s6 wx => s6 = .nilIface ∧ ∃ w5, Stepped wr w5 p mb 1048576 sv L' ∧ wx = w5.setCell ⟨q, 2, none⟩ (.int .i64 pw))
      case first =>
        clear PW SO DO EX LE HB HSV HTEN HT HTV
        go_region_with (go_at_call 27; refine (CP.out _ ?_).mono ?_; (exact (Fr0.refl wr).drew); rintro e w5 ⟨rfl, hst⟩; have hq5 := (hst.before (Fr0.refl wr).drew).block HS.out HQ.out (by decide) (by decide); obtain ⟨p0, p1, p2, pf, pl⟩ := cells3 hq5)
        all_goals
          go_wp2_with fail
          go_meet
          exact ⟨rfl, w5, hst.before (Fr0.refl wr).drew, rfl⟩
      case rest =>
        obtain ⟨rfl, w5, hst, rfl⟩ := hcut
        have hq5 := hst.block HS.out HQ.out (by decide) (by decide)
        have hT5 := hst.owns HS.out HT.out (by decide) (by decide)
        have hG := begun_of HB.out HTEN.out HSV.out HTV.out hst hT5 hq5 PW.out SO.out DO.out EX.out LE.out
        clear c0 c1 c2 f l hcell CP hst hq5 hT5 HB HTEN HSV HTV PW SO DO EX LE HS HQ HT
        generalize w5.setCell ⟨q, 2, none⟩ (.int .i64 pw) = W at *
        clear w5
        obtain ⟨tv', h3, h4, h5⟩ := hG.wptr
        obtain ⟨c0, c1, c2, f, l⟩ := cells3 h3
        have HG := Lib.hid hG
        clear h3 h4 h5 hG
        have CO := Lib.hid (bl_Of_zero p 3 W (by omega) (by omega))
        go_wp2_with fail
        refine CO.out.mono ?_
        rintro e w6 ⟨rv, rfl, ho, hf6, hr6⟩
        have hG6 := HG.out.kept0 hf6
        have HG6 := Lib.hid hG6
        obtain ⟨lb, rcap, hrv, hc⟩ := owned_row ho (k := 0) (r := ⟨0, 3, 0, 0⟩) rfl
        have hl1 : (rows0 3).length = 1 := rfl
        rw [hl1] at hrv
        subst hrv
        have d0 := hc 0 _ rfl
        have d1 := hc 1 _ rfl
        have d2 := hc 2 _ rfl
        have d3 := hc 3 _ rfl
        simp only [Nat.zero_mul, Nat.zero_add] at d0 d1 d2 d3
        clear hc ho hr6 hf6 hG6 HG c0 c1 c2 f l CO hl1
        go_wp2_with fail
        go_quiet (fail)
        go_wp2_with fail
        go_ret2
        exact ⟨q, p, mb, ids, pw, L', rfl, HG6.out.kept0 ((Fr0.refl w6).drewN _)⟩

end Go.Proofs.Ytbokcmkbnkncoaa

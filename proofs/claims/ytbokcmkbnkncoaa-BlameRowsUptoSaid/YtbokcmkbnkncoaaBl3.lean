/- The walk of blame.Of and blame.Since without patches. -/
import Derived.Test.YtbokcmkbnkncoaaBl2
set_option linter.unusedSimpArgs false
set_option linter.unusedVariables false
namespace Go.Proofs.Ytbokcmkbnkncoaa
open Go.RowKit

set_option maxRecDepth 100000 in
set_option maxHeartbeats 1000000 in
theorem bl_Of_none (length : Int) (pv : Value) (w : World) :
    Calls Try.prog 15 #[.pointer none, .int .i64 length, pv] w fun e w' => e = .returned (.tuple #[.slice none 0 0, .iface 66 (.int .i64 5)]) ∧ w = w' := by
  go_enter Try.func15, Try.ntmps15
  go_wp2_with fail
  go_ret2
  exact ⟨rfl, rfl⟩

set_option maxRecDepth 100000 in
set_option maxHeartbeats 1000000 in
theorem bl_Of_range (p : Nat) (length : Int) (pv : Value) (w : World) (h : length < 0 ∨ 1152921504606846976 < length) :
    Calls Try.prog 15 #[.pointer (some ⟨p, 0, none⟩), .int .i64 length, pv] w fun e w' => e = .returned (.tuple #[.slice none 0 0, .iface 66 (.int .i64 1)]) ∧ w = w' := by
  have C := Lib.hid (len_Valid_no length w h)
  clear h
  go_enter Try.func15, Try.ntmps15
  go_wp2_with fail
  refine C.out.mono ?_
  rintro e w' ⟨rfl, rfl⟩
  go_wp2_with fail
  go_ret2
  exact ⟨rfl, rfl⟩

/-- The first rows. -/
def rows0 (length : Int) : List Rw := addRow [] 0 length 0 0

set_option maxRecDepth 100000 in
set_option maxHeartbeats 1000000 in
theorem bl_Of_zero (p : Nat) (length : Int) (w : World) (h0 : 0 ≤ length) (h1 : length ≤ 1152921504606846976) :
    Calls Try.prog 15 #[.pointer (some ⟨p, 0, none⟩), .int .i64 length, .slice none 0 0] w fun e w' => ∃ rv, e = .returned (.tuple #[rv, .nilIface]) ∧ w'.ownsRow 0 51 4 rv (rows0 length).length (rowCells (rows0 length)) ∧ Fr0 w w' ∧ (∀ k, rv.ownBlock = some k → w.heap.size ≤ k) := by
  have C := Lib.hid (fun w => len_Valid_yes length w h0 h1)
  have hB0 : Bd (w.alloc (.cells #[.slice none 0 0, .int .i64 0] 96 (0, 0))) w.heap.size (.slice none 0 0) [] 0 := ⟨alloc_at _ _ _ rfl, World.ownsRow_nil _ _ _ _⟩
  have CA := Lib.hid (bl_add hB0 length 0 0 h0 (by omega) (by omega) (by simp) (fun r hr => by simp at hr))
  clear hB0
  go_enter Try.func15, Try.ntmps15
  go_wp2_with fail
  refine (C.out _).mono ?_
  rintro e w' ⟨rfl, rfl⟩
  go_wp2_with fail
  refine CA.out.mono ?_
  rintro e w1 ⟨rfl, hst⟩
  obtain ⟨rv, hB, hf, hv⟩ := hst
  go_wp2_with fail
  obtain ⟨c0, c1, f, l⟩ := cells2 hB.ptr
  have HB := Lib.hid hB
  have HF := Lib.hid hf
  have HV := Lib.hid hv
  clear hB hf hv
  go_loop [8, 27] (fun b i => b = .pointer (some ⟨w.heap.size, 0, none⟩) ∧ i = .int .i64 0) (fun _ _ => 0)
  case atStart => exact ⟨rfl, rfl⟩
  case round =>
    obtain ⟨rfl, rfl⟩ := hrel
    go_wp2_with fail
    go_ret2
    refine ⟨rv, rfl, HB.out.own, ?_, ?_⟩
    · refine Fr.trans (Fr.alloc (Fr.refl _ w) _) HF.out ?_
      rintro i (hi | hi) hlt
      · omega
      · simp [Value.ownBlock] at hi
    · intro k hk
      rcases HV.out k hk with h | h
      · simp [Value.ownBlock] at h
      · simp at h; omega

set_option maxRecDepth 100000 in
set_option maxHeartbeats 1000000 in
theorem bl_Since_none (length version : Int) (pv : Value) (w : World) :
    Calls Try.prog 21 #[.pointer none, .int .i64 length, .int .i64 version, pv] w fun e w' => e = .returned (.tuple #[.slice none 0 0, .iface 66 (.int .i64 5)]) ∧ w = w' := by
  go_enter Try.func21, Try.ntmps21
  go_wp2_with fail
  refine (bl_Of_none _ _ _).mono ?_
  rintro e w' ⟨rfl, rfl⟩
  go_wp2_with fail
  go_ret2
  exact ⟨rfl, rfl⟩

set_option maxRecDepth 100000 in
set_option maxHeartbeats 1000000 in
theorem bl_Since_range (p : Nat) (length version : Int) (pv : Value) (w : World) (h : length < 0 ∨ 1152921504606846976 < length) :
    Calls Try.prog 21 #[.pointer (some ⟨p, 0, none⟩), .int .i64 length, .int .i64 version, pv] w fun e w' => e = .returned (.tuple #[.slice none 0 0, .iface 66 (.int .i64 1)]) ∧ w = w' := by
  have C := Lib.hid (bl_Of_range p length pv w h)
  clear h
  go_enter Try.func21, Try.ntmps21
  go_wp2_with fail
  refine C.out.mono ?_
  rintro e w' ⟨rfl, rfl⟩
  go_wp2_with fail
  go_ret2
  exact ⟨rfl, rfl⟩

set_option maxRecDepth 100000 in
set_option maxHeartbeats 1000000 in
theorem bl_Since_version (p : Nat) (length version : Int) (w : World) (h0 : 0 ≤ length) (h1 : length ≤ 1152921504606846976) (hv : version < 0 ∨ 0 < version) :
    Calls Try.prog 21 #[.pointer (some ⟨p, 0, none⟩), .int .i64 length, .int .i64 version, .slice none 0 0] w fun e w' => e = .returned (.tuple #[.slice none 0 0, .iface 66 (.int .i64 1)]) ∧ Fr0 w w' := by
  have C := Lib.hid (bl_Of_zero p length w h0 h1)
  rcases hv with hv | hv
  · go_enter Try.func21, Try.ntmps21
    go_wp2_with fail
    refine C.out.mono ?_
    rintro e w1 ⟨rv, rfl, ho, hf, hr⟩
    go_wp2_with fail
    go_ret2
    exact ⟨rfl, hf⟩
  · have hd : decide (version < 0) = false := decide_eq_false (by omega)
    go_enter Try.func21, Try.ntmps21
    go_wp2_with fail
    refine C.out.mono ?_
    rintro e w1 ⟨rv, rfl, ho, hf, hr⟩
    go_wp2_with fail
    go_ret2
    exact ⟨rfl, hf⟩

end Go.Proofs.Ytbokcmkbnkncoaa

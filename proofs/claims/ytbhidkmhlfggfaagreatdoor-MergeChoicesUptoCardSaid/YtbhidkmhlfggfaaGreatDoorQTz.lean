/- The contract of math/bits.TrailingZeros64: laid by program off the shelf. -/
import Derived.Ground.Names7Prog
import Derived.Shelf.Spec.TrailingZeros
import Derived.Test.YtbhidkmhlfggfaaGreatDoorProg
namespace Go.Proofs
open Go.Shelf
def Tryz.laysTz_ren : Go.Shelf.Ren := ⟨fun | 29 => 188 | n => n, fun | 22 => 102 | 3 => 3 | 4 => 4 | 25 => 173 | 54 => 295 | 0 => 0 | 5 => 5 | n => n, fun | 1 => 0 | n => n⟩
theorem Tryz.laysTz : Go.Proofs.Lays7.n29 Tryz.prog Tryz.laysTz_ren := {
 mixed := by kernel_rfl
 f29 := Tryz.func188.trans (congrArg some (by kernel_rfl))
 t0 := Tryz.underlying0
 a0 := Tryz.isAgg0
 z0 := Tryz.sizeOf0
 v0 := Tryz.zeroValue0
 i0 := by kernel_rfl
 t3 := Tryz.underlying3
 a3 := Tryz.isAgg3
 z3 := Tryz.sizeOf3
 v3 := Tryz.zeroValue3
 i3 := by kernel_rfl
 t4 := Tryz.underlying4
 a4 := Tryz.isAgg4
 z4 := Tryz.sizeOf4
 v4 := Tryz.zeroValue4
 i4 := by kernel_rfl
 t5 := Tryz.underlying5
 a5 := Tryz.isAgg5
 z5 := Tryz.sizeOf5
 v5 := Tryz.zeroValue5
 i5 := by kernel_rfl
 t22 := Tryz.underlying102
 a22 := Tryz.isAgg102
 z22 := Tryz.sizeOf102
 v22 := Tryz.zeroValue102
 i22 := by kernel_rfl
 t25 := Tryz.underlying173
 a25 := Tryz.isAgg173
 z25 := Tryz.sizeOf173
 v25 := Tryz.zeroValue173
 i25 := by kernel_rfl
 t54 := Tryz.underlying295
 a54 := Tryz.isAgg295
 z54 := Tryz.sizeOf295
 g1 := by kernel_rfl }
open Go.RowKit in
theorem Tryz.bits_TrailingZeros64 (x : Nat) (hx : x < 18446744073709551616) (w : World) (hT : x ≠ 0 → TabAt 0 Lib.deBruijn64tab w) :
    Calls Tryz.prog 188 #[.int .u64 x] w fun e w' => e = .returned (.int .i64 (Lib.ctz 64 x)) ∧ w' = w := Any7.bits_TrailingZeros64 Tryz.laysTz x hx w hT
end Go.Proofs

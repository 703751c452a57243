/- The contract of math/bits.TrailingZeros64: laid by program off the shelf. -/
import Derived.Ground.Names7Prog
import Derived.Shelf.Spec.TrailingZeros
import Derived.Test.YtgldjpldldknoaaGreatDoorProg
namespace Go.Proofs
open Go.Shelf
def Tryz.laysTz_ren : Go.Shelf.Ren := ⟨fun | 29 => 152 | n => n, fun | 22 => 43 | 3 => 3 | 4 => 4 | 25 => 86 | 54 => 250 | 0 => 0 | 5 => 5 | n => n, fun | 1 => 0 | n => n⟩
theorem Tryz.laysTz : Go.Proofs.Lays7.n29 Tryz.prog Tryz.laysTz_ren := {
 mixed := by kernel_rfl
 f29 := Tryz.func152.trans (congrArg some (by kernel_rfl))
 t0 := Tryz.underlying0
 a0 := Tryz.isAgg0
 z0 := Tryz.sizeOf0
 v0 := Tryz.zeroValue0
 i0 := by kernel_rfl
 t3 := Tryz.underlying3
 a3 := Tryz.isAgg3
 z3 := Tryz.sizeOf3
 v3 := Tryz.zeroValue3
 i3 := by kernel_rfl
 t4 := Tryz.underlying4
 a4 := Tryz.isAgg4
 z4 := Tryz.sizeOf4
 v4 := Tryz.zeroValue4
 i4 := by kernel_rfl
 t5 := Tryz.underlying5
 a5 := Tryz.isAgg5
 z5 := Tryz.sizeOf5
 v5 := Tryz.zeroValue5
 i5 := by kernel_rfl
 t22 := Tryz.underlying43
 a22 := Tryz.isAgg43
 z22 := Tryz.sizeOf43
 v22 := Tryz.zeroValue43
 i22 := by kernel_rfl
 t25 := Tryz.underlying86
 a25 := Tryz.isAgg86
 z25 := Tryz.sizeOf86
 v25 := Tryz.zeroValue86
 i25 := by kernel_rfl
 t54 := Tryz.underlying250
 a54 := Tryz.isAgg250
 z54 := Tryz.sizeOf250
 g1 := by kernel_rfl }
open Go.RowKit in
theorem Tryz.bits_TrailingZeros64 (x : Nat) (hx : x < 18446744073709551616) (w : World) (hT : x ≠ 0 → TabAt 0 Lib.deBruijn64tab w) :
    Calls Tryz.prog 152 #[.int .u64 x] w fun e w' => e = .returned (.int .i64 (Lib.ctz 64 x)) ∧ w' = w := Any7.bits_TrailingZeros64 Tryz.laysTz x hx w hT
end Go.Proofs

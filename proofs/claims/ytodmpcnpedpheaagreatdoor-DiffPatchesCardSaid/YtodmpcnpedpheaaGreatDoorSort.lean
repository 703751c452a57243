/- The contract of slices.Sort at the IDs: laid by program off the shelf. -/
import Derived.Ground.SlgmProg
import Derived.Shelf.SortM.Plain
import Derived.Test.YtodmpcnpedpheaaGreatDoorProg
namespace Go.Proofs
open Go.Shelf
def Tryz.laysSort_ren : Go.Shelf.Ren := ⟨fun | 5 => 113 | 8 => 126 | 7 => 125 | 19 => 140 | 20 => 141 | 10 => 131 | 11 => 132 | 12 => 133 | 13 => 134 | 14 => 135 | 15 => 136 | 16 => 137 | 17 => 138 | 18 => 139 | 30 => 144 | 31 => 145 | 32 => 146 | 33 => 147 | 34 => 148 | 35 => 149 | 40 => 151 | n => n, fun | 23 => 29 | 25 => 38 | 3 => 3 | 32 => 224 | 22 => 29 | 0 => 0 | 44 => 250 | 46 => 45 | 4 => 4 | 36 => 243 | 35 => 242 | 41 => 219 | 5 => 5 | 9 => 9 | 53 => 253 | 57 => 257 | 63 => 259 | 64 => 216 | n => n, fun | n => n⟩
theorem Tryz.laysSort : Go.Proofs.SlLaysM.n5 Tryz.prog Tryz.laysSort_ren := {
  mixed := by kernel_rfl
  f5 := ⟨Tryz.f113.name, by decide, Tryz.func113.trans (congrArg some (by kernel_rfl))⟩
  f7 := ⟨Tryz.f125.name, by decide, Tryz.func125.trans (congrArg some (by kernel_rfl))⟩
  f8 := Tryz.func126.trans (congrArg some (by kernel_rfl))
  f10 := ⟨Tryz.f131.name, by decide, Tryz.func131.trans (congrArg some (by kernel_rfl))⟩
  f11 := ⟨Tryz.f132.name, by decide, Tryz.func132.trans (congrArg some (by kernel_rfl))⟩
  f12 := ⟨Tryz.f133.name, by decide, Tryz.func133.trans (congrArg some (by kernel_rfl))⟩
  f13 := ⟨Tryz.f134.name, by decide, Tryz.func134.trans (congrArg some (by kernel_rfl))⟩
  f14 := ⟨Tryz.f135.name, by decide, Tryz.func135.trans (congrArg some (by kernel_rfl))⟩
  f15 := ⟨Tryz.f136.name, by decide, Tryz.func136.trans (congrArg some (by kernel_rfl))⟩
  f16 := ⟨Tryz.f137.name, by decide, Tryz.func137.trans (congrArg some (by kernel_rfl))⟩
  f17 := ⟨Tryz.f138.name, by decide, Tryz.func138.trans (congrArg some (by kernel_rfl))⟩
  f18 := ⟨Tryz.f139.name, by decide, Tryz.func139.trans (congrArg some (by kernel_rfl))⟩
  f19 := Tryz.func140.trans (congrArg some (by kernel_rfl))
  f20 := Tryz.func141.trans (congrArg some (by kernel_rfl))
  f30 := ⟨Tryz.f144.name, by decide, Tryz.func144.trans (congrArg some (by kernel_rfl))⟩
  f31 := Tryz.func145.trans (congrArg some (by kernel_rfl))
  f32 := Tryz.func146.trans (congrArg some (by kernel_rfl))
  f33 := ⟨Tryz.f147.name, by decide, Tryz.func147.trans (congrArg some (by kernel_rfl))⟩
  f34 := ⟨Tryz.f148.name, by decide, Tryz.func148.trans (congrArg some (by kernel_rfl))⟩
  f35 := ⟨Tryz.f149.name, by decide, Tryz.func149.trans (congrArg some (by kernel_rfl))⟩
  f40 := ⟨Tryz.f151.name, by decide, Tryz.func151.trans (congrArg some (by kernel_rfl))⟩
  t0 := Tryz.underlying0
  a0 := Tryz.isAgg0
  z0 := Tryz.sizeOf0
  v0 := Tryz.zeroValue0
  t3 := Tryz.underlying3
  a3 := Tryz.isAgg3
  z3 := Tryz.sizeOf3
  v3 := Tryz.zeroValue3
  t4 := Tryz.underlying4
  a4 := Tryz.isAgg4
  z4 := Tryz.sizeOf4
  v4 := Tryz.zeroValue4
  t5 := Tryz.underlying5
  a5 := Tryz.isAgg5
  z5 := Tryz.sizeOf5
  v5 := Tryz.zeroValue5
  t9 := Tryz.underlying9
  a9 := Tryz.isAgg9
  z9 := Tryz.sizeOf9
  v9 := Tryz.zeroValue9
  t22 := Tryz.underlying29
  a22 := Tryz.isAgg29
  z22 := Tryz.sizeOf29
  v22 := Tryz.zeroValue29
  t23 := Tryz.underlying29
  a23 := Tryz.isAgg29
  z23 := Tryz.sizeOf29
  v23 := Tryz.zeroValue29
  t25 := Tryz.underlying38
  a25 := Tryz.isAgg38
  z25 := Tryz.sizeOf38
  v25 := Tryz.zeroValue38
  t32 := Tryz.underlying224
  a32 := Tryz.isAgg224
  z32 := Tryz.sizeOf224
  v32 := Tryz.zeroValue224
  t35 := Tryz.underlying242
  a35 := Tryz.isAgg242
  z35 := Tryz.sizeOf242
  v35 := Tryz.zeroValue242
  t36 := Tryz.underlying243
  a36 := Tryz.isAgg243
  z36 := Tryz.sizeOf243
  v36 := Tryz.zeroValue243
  t41 := Tryz.underlying219
  a41 := Tryz.isAgg219
  z41 := Tryz.sizeOf219
  v41 := Tryz.zeroValue219
  t44 := Tryz.underlying250
  a44 := Tryz.isAgg250
  z44 := Tryz.sizeOf250
  v44 := Tryz.zeroValue250
  t46 := Tryz.underlying45
  a46 := Tryz.isAgg45
  z46 := Tryz.sizeOf45
  v46 := Tryz.zeroValue45
  t53 := Tryz.underlying253
  a53 := Tryz.isAgg253
  z53 := Tryz.sizeOf253
  v53 := Tryz.zeroValue253
  t57 := Tryz.underlying257
  a57 := Tryz.isAgg257
  z57 := Tryz.sizeOf257
  v57 := Tryz.zeroValue257
  t63 := Tryz.underlying259
  a63 := Tryz.isAgg259
  z63 := Tryz.sizeOf259
  v63 := Tryz.zeroValue259
  t64 := Tryz.underlying216
  a64 := Tryz.isAgg216
  z64 := Tryz.sizeOf216
  v64 := Tryz.zeroValue216 }
open Go.Sort Go.RowKit in
theorem Tryz.slices_Sort_ids (blk off cap : Nat) (zs : List Int) (w : World) (hH : Holds (Value.int .i64) w blk off zs.toArray) (hblk : blk < w.heap.size) (hsz : zs.length < 4611686018427387904) :
    Calls Tryz.prog 113 #[.slice (some ⟨blk, off, none⟩) zs.length cap] w fun e w' =>
      e = .returned (.tuple #[]) ∧ ∃ n os, w' = grow (putRow (Value.int .i64) (Sort.ahead w n) blk off (zs.mergeSort fun x y => decide (x ≤ y)).toArray) os := AnyM.slices_Sort_int Tryz.laysSort blk off cap zs w hH hblk hsz
end Go.Proofs

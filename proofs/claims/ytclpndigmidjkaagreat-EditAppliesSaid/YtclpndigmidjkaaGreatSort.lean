/- The contract of slices.Sort at the IDs: laid by program off the shelf. -/
import Derived.Ground.SlgmProg
import Derived.Shelf.SortM.Plain
import Derived.Test.YtclpndigmidjkaaGreatProg
namespace Go.Proofs
open Go.Shelf
def Tryz.laysSort_ren : Go.Shelf.Ren := ⟨fun | 5 => 128 | 8 => 142 | 7 => 141 | 19 => 158 | 20 => 159 | 10 => 149 | 11 => 150 | 12 => 151 | 13 => 152 | 14 => 153 | 15 => 154 | 16 => 155 | 17 => 156 | 18 => 157 | 30 => 163 | 31 => 164 | 32 => 165 | 33 => 166 | 34 => 167 | 35 => 168 | 40 => 169 | n => n, fun | 23 => 28 | 25 => 39 | 3 => 3 | 32 => 226 | 22 => 28 | 0 => 0 | 44 => 243 | 46 => 153 | 4 => 4 | 36 => 235 | 35 => 234 | 41 => 240 | 5 => 5 | 9 => 9 | 53 => 248 | 57 => 252 | 63 => 254 | 64 => 95 | n => n, fun | n => n⟩
theorem Tryz.laysSort : Go.Proofs.SlLaysM.n5 Tryz.prog Tryz.laysSort_ren := {
  mixed := by kernel_rfl
  f5 := ⟨Tryz.f128.name, by decide, Tryz.func128.trans (congrArg some (by kernel_rfl))⟩
  f7 := ⟨Tryz.f141.name, by decide, Tryz.func141.trans (congrArg some (by kernel_rfl))⟩
  f8 := Tryz.func142.trans (congrArg some (by kernel_rfl))
  f10 := ⟨Tryz.f149.name, by decide, Tryz.func149.trans (congrArg some (by kernel_rfl))⟩
  f11 := ⟨Tryz.f150.name, by decide, Tryz.func150.trans (congrArg some (by kernel_rfl))⟩
  f12 := ⟨Tryz.f151.name, by decide, Tryz.func151.trans (congrArg some (by kernel_rfl))⟩
  f13 := ⟨Tryz.f152.name, by decide, Tryz.func152.trans (congrArg some (by kernel_rfl))⟩
  f14 := ⟨Tryz.f153.name, by decide, Tryz.func153.trans (congrArg some (by kernel_rfl))⟩
  f15 := ⟨Tryz.f154.name, by decide, Tryz.func154.trans (congrArg some (by kernel_rfl))⟩
  f16 := ⟨Tryz.f155.name, by decide, Tryz.func155.trans (congrArg some (by kernel_rfl))⟩
  f17 := ⟨Tryz.f156.name, by decide, Tryz.func156.trans (congrArg some (by kernel_rfl))⟩
  f18 := ⟨Tryz.f157.name, by decide, Tryz.func157.trans (congrArg some (by kernel_rfl))⟩
  f19 := Tryz.func158.trans (congrArg some (by kernel_rfl))
  f20 := Tryz.func159.trans (congrArg some (by kernel_rfl))
  f30 := ⟨Tryz.f163.name, by decide, Tryz.func163.trans (congrArg some (by kernel_rfl))⟩
  f31 := Tryz.func164.trans (congrArg some (by kernel_rfl))
  f32 := Tryz.func165.trans (congrArg some (by kernel_rfl))
  f33 := ⟨Tryz.f166.name, by decide, Tryz.func166.trans (congrArg some (by kernel_rfl))⟩
  f34 := ⟨Tryz.f167.name, by decide, Tryz.func167.trans (congrArg some (by kernel_rfl))⟩
  f35 := ⟨Tryz.f168.name, by decide, Tryz.func168.trans (congrArg some (by kernel_rfl))⟩
  f40 := ⟨Tryz.f169.name, by decide, Tryz.func169.trans (congrArg some (by kernel_rfl))⟩
  t0 := Tryz.underlying0
  a0 := Tryz.isAgg0
  z0 := Tryz.sizeOf0
  v0 := Tryz.zeroValue0
  t3 := Tryz.underlying3
  a3 := Tryz.isAgg3
  z3 := Tryz.sizeOf3
  v3 := Tryz.zeroValue3
  t4 := Tryz.underlying4
  a4 := Tryz.isAgg4
  z4 := Tryz.sizeOf4
  v4 := Tryz.zeroValue4
  t5 := Tryz.underlying5
  a5 := Tryz.isAgg5
  z5 := Tryz.sizeOf5
  v5 := Tryz.zeroValue5
  t9 := Tryz.underlying9
  a9 := Tryz.isAgg9
  z9 := Tryz.sizeOf9
  v9 := Tryz.zeroValue9
  t22 := Tryz.underlying28
  a22 := Tryz.isAgg28
  z22 := Tryz.sizeOf28
  v22 := Tryz.zeroValue28
  t23 := Tryz.underlying28
  a23 := Tryz.isAgg28
  z23 := Tryz.sizeOf28
  v23 := Tryz.zeroValue28
  t25 := Tryz.underlying39
  a25 := Tryz.isAgg39
  z25 := Tryz.sizeOf39
  v25 := Tryz.zeroValue39
  t32 := Tryz.underlying226
  a32 := Tryz.isAgg226
  z32 := Tryz.sizeOf226
  v32 := Tryz.zeroValue226
  t35 := Tryz.underlying234
  a35 := Tryz.isAgg234
  z35 := Tryz.sizeOf234
  v35 := Tryz.zeroValue234
  t36 := Tryz.underlying235
  a36 := Tryz.isAgg235
  z36 := Tryz.sizeOf235
  v36 := Tryz.zeroValue235
  t41 := Tryz.underlying240
  a41 := Tryz.isAgg240
  z41 := Tryz.sizeOf240
  v41 := Tryz.zeroValue240
  t44 := Tryz.underlying243
  a44 := Tryz.isAgg243
  z44 := Tryz.sizeOf243
  v44 := Tryz.zeroValue243
  t46 := Tryz.underlying153
  a46 := Tryz.isAgg153
  z46 := Tryz.sizeOf153
  v46 := Tryz.zeroValue153
  t53 := Tryz.underlying248
  a53 := Tryz.isAgg248
  z53 := Tryz.sizeOf248
  v53 := Tryz.zeroValue248
  t57 := Tryz.underlying252
  a57 := Tryz.isAgg252
  z57 := Tryz.sizeOf252
  v57 := Tryz.zeroValue252
  t63 := Tryz.underlying254
  a63 := Tryz.isAgg254
  z63 := Tryz.sizeOf254
  v63 := Tryz.zeroValue254
  t64 := Tryz.underlying95
  a64 := Tryz.isAgg95
  z64 := Tryz.sizeOf95
  v64 := Tryz.zeroValue95 }
open Go.Sort Go.RowKit in
theorem Tryz.slices_Sort_ids (blk off cap : Nat) (zs : List Int) (w : World) (hH : Holds (Value.int .i64) w blk off zs.toArray) (hblk : blk < w.heap.size) (hsz : zs.length < 4611686018427387904) :
    Calls Tryz.prog 128 #[.slice (some ⟨blk, off, none⟩) zs.length cap] w fun e w' =>
      e = .returned (.tuple #[]) ∧ ∃ n os, w' = grow (putRow (Value.int .i64) (Sort.ahead w n) blk off (zs.mergeSort fun x y => decide (x ≤ y)).toArray) os := AnyM.slices_Sort_int Tryz.laysSort blk off cap zs w hH hblk hsz
end Go.Proofs

/- Part of what the laws need: plain words, the walker and its laws, the program's functions. -/
import Derived.Test.YthnhjibbkleneaaZBI
import Derived.Test.YthnhjibbkleneaaProg
namespace Go.Proofs.Ythnhjibbkleneaa
def lays185_ren : Go.Shelf.Ren := ⟨fun | 185 => 89 | 187 => 121 | 115 => 122 | 253 => 123 | 224 => 124 | 254 => 125 | 255 => 139 | 291 => 140 | n => n, fun | 37 => 22 | 3 => 3 | 4 => 4 | 0 => 0 | 5 => 5 | 46 => 168 | 9 => 9 | 146 => 179 | 51 => 133 | n => n, fun | 1 => 0 | n => n⟩
theorem lays185 : Go.Proofs.Lays.n185 Try.prog lays185_ren := {
  mixed := by kernel_rfl
  f115 := Try.func122.trans (congrArg some (by kernel_rfl))
  f185 := Try.func89.trans (congrArg some (by kernel_rfl))
  f187 := Try.func121.trans (congrArg some (by kernel_rfl))
  f224 := Try.func124.trans (congrArg some (by kernel_rfl))
  f253 := Try.func123.trans (congrArg some (by kernel_rfl))
  f254 := Try.func125.trans (congrArg some (by kernel_rfl))
  f255 := Try.func139.trans (congrArg some (by kernel_rfl))
  f291 := Try.func140.trans (congrArg some (by kernel_rfl))
  t0 := Try.underlying0
  a0 := Try.isAgg0
  z0 := Try.sizeOf0
  v0 := Try.zeroValue0
  t3 := Try.underlying3
  a3 := Try.isAgg3
  z3 := Try.sizeOf3
  v3 := Try.zeroValue3
  t4 := Try.underlying4
  a4 := Try.isAgg4
  z4 := Try.sizeOf4
  v4 := Try.zeroValue4
  t5 := Try.underlying5
  a5 := Try.isAgg5
  z5 := Try.sizeOf5
  v5 := Try.zeroValue5
  t9 := Try.underlying9
  a9 := Try.isAgg9
  z9 := Try.sizeOf9
  v9 := Try.zeroValue9
  t37 := Try.underlying22
  a37 := Try.isAgg22
  z37 := Try.sizeOf22
  v37 := Try.zeroValue22
  t46 := Try.underlying168
  a46 := Try.isAgg168
  z46 := Try.sizeOf168
  v46 := Try.zeroValue168
  t51 := Try.underlying133
  a51 := Try.isAgg133
  z51 := Try.sizeOf133
  v51 := Try.zeroValue133
  t146 := Try.underlying179
  a146 := Try.isAgg179
  z146 := Try.sizeOf179
  v146 := Try.zeroValue179
  g1 := by kernel_rfl }
end Go.Proofs.Ythnhjibbkleneaa

/- What slices.SortFunc asks of this program, laid by the kit's tool. -/
import Derived.Shelf.SlGeneric
import Derived.Shelf.SlSortCmp.WholeK
import Derived.Ground.SlsfProg
import Derived.Test.YtdndfkoklhfffaaGreatDoorProg
namespace Go.Proofs
open Go.Shelf
def Tryz.sortHole_ren : Go.Shelf.Ren := ⟨fun | 6 => 48 | 15 => 75 | 14 => 74 | 28 => 100 | 29 => 101 | 20 => 92 | 21 => 93 | 22 => 94 | 23 => 95 | 24 => 96 | 25 => 97 | 26 => 98 | 27 => 99 | 46 => 112 | 47 => 113 | 48 => 114 | 49 => 115 | 50 => 116 | 57 => 119 | n => n, fun | 22 => 74 | 24 => 77 | 25 => 80 | 3 => 3 | 39 => 94 | 0 => 0 | 53 => 122 | 55 => 61 | 4 => 4 | 46 => 115 | 45 => 114 | 50 => 119 | 5 => 5 | 9 => 9 | 66 => 128 | 70 => 132 | 76 => 135 | 77 => 136 | n => n, fun | n => n⟩
theorem Tryz.sortHole : Go.Proofs.SlLaysF0.n6 Tryz.prog Tryz.sortHole_ren := {
  mixed := by kernel_rfl
  f6 := ⟨Tryz.f48.name, by decide, Tryz.func48.trans (congrArg some (by kernel_rfl))⟩
  f14 := ⟨Tryz.f74.name, by decide, Tryz.func74.trans (congrArg some (by kernel_rfl))⟩
  f15 := Tryz.func75.trans (congrArg some (by kernel_rfl))
  f20 := ⟨Tryz.f92.name, by decide, Tryz.func92.trans (congrArg some (by kernel_rfl))⟩
  f21 := ⟨Tryz.f93.name, by decide, Tryz.func93.trans (congrArg some (by kernel_rfl))⟩
  f22 := ⟨Tryz.f94.name, by decide, Tryz.func94.trans (congrArg some (by kernel_rfl))⟩
  f23 := ⟨Tryz.f95.name, by decide, Tryz.func95.trans (congrArg some (by kernel_rfl))⟩
  f24 := ⟨Tryz.f96.name, by decide, Tryz.func96.trans (congrArg some (by kernel_rfl))⟩
  f25 := ⟨Tryz.f97.name, by decide, Tryz.func97.trans (congrArg some (by kernel_rfl))⟩
  f26 := ⟨Tryz.f98.name, by decide, Tryz.func98.trans (congrArg some (by kernel_rfl))⟩
  f27 := ⟨Tryz.f99.name, by decide, Tryz.func99.trans (congrArg some (by kernel_rfl))⟩
  f28 := Tryz.func100.trans (congrArg some (by kernel_rfl))
  f29 := Tryz.func101.trans (congrArg some (by kernel_rfl))
  f46 := ⟨Tryz.f112.name, by decide, Tryz.func112.trans (congrArg some (by kernel_rfl))⟩
  f47 := Tryz.func113.trans (congrArg some (by kernel_rfl))
  f48 := Tryz.func114.trans (congrArg some (by kernel_rfl))
  f49 := ⟨Tryz.f115.name, by decide, Tryz.func115.trans (congrArg some (by kernel_rfl))⟩
  f50 := ⟨Tryz.f116.name, by decide, Tryz.func116.trans (congrArg some (by kernel_rfl))⟩
  f57 := ⟨Tryz.f119.name, by decide, Tryz.func119.trans (congrArg some (by kernel_rfl))⟩
  t0 := Tryz.underlying0
  a0 := Tryz.isAgg0
  z0 := Tryz.sizeOf0
  v0 := Tryz.zeroValue0
  t3 := Tryz.underlying3
  a3 := Tryz.isAgg3
  z3 := Tryz.sizeOf3
  v3 := Tryz.zeroValue3
  t4 := Tryz.underlying4
  a4 := Tryz.isAgg4
  z4 := Tryz.sizeOf4
  v4 := Tryz.zeroValue4
  t5 := Tryz.underlying5
  a5 := Tryz.isAgg5
  z5 := Tryz.sizeOf5
  v5 := Tryz.zeroValue5
  t9 := Tryz.underlying9
  a9 := Tryz.isAgg9
  z9 := Tryz.sizeOf9
  v9 := Tryz.zeroValue9
  t22 := Tryz.underlying74
  a22 := Tryz.isAgg74
  z22 := Tryz.sizeOf74
  v22 := Tryz.zeroValue74
  t25 := Tryz.underlying80
  a25 := Tryz.isAgg80
  z25 := Tryz.sizeOf80
  v25 := Tryz.zeroValue80
  t39 := Tryz.underlying94
  a39 := Tryz.isAgg94
  z39 := Tryz.sizeOf94
  v39 := Tryz.zeroValue94
  t45 := Tryz.underlying114
  a45 := Tryz.isAgg114
  z45 := Tryz.sizeOf114
  v45 := Tryz.zeroValue114
  t46 := Tryz.underlying115
  a46 := Tryz.isAgg115
  z46 := Tryz.sizeOf115
  v46 := Tryz.zeroValue115
  t50 := Tryz.underlying119
  a50 := Tryz.isAgg119
  z50 := Tryz.sizeOf119
  v50 := Tryz.zeroValue119
  t53 := Tryz.underlying122
  a53 := Tryz.isAgg122
  z53 := Tryz.sizeOf122
  v53 := Tryz.zeroValue122
  t55 := Tryz.underlying61
  a55 := Tryz.isAgg61
  z55 := Tryz.sizeOf61
  v55 := Tryz.zeroValue61
  t66 := Tryz.underlying128
  a66 := Tryz.isAgg128
  z66 := Tryz.sizeOf128
  v66 := Tryz.zeroValue128
  t70 := Tryz.underlying132
  a70 := Tryz.isAgg132
  z70 := Tryz.sizeOf132
  v70 := Tryz.zeroValue132
  t76 := Tryz.underlying135
  a76 := Tryz.isAgg135
  z76 := Tryz.sizeOf135
  v76 := Tryz.zeroValue135
  t77 := Tryz.underlying136
  a77 := Tryz.isAgg136
  z77 := Tryz.sizeOf136
  v77 := Tryz.zeroValue136 }
end Go.Proofs

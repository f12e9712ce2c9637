/- What slices.SortFunc asks of this program, laid by the kit's tool. -/
import Derived.Shelf.SlGeneric
import Derived.Shelf.SlSortCmp.WholeK
import Derived.Ground.SlsfProg
import Derived.Test.YtdndfkoklhfffaaDoorProg
namespace Go.Proofs
open Go.Shelf
def Tryd.sortHole_ren : Go.Shelf.Ren := ⟨fun | 6 => 82 | 15 => 108 | 14 => 107 | 28 => 126 | 29 => 127 | 20 => 118 | 21 => 119 | 22 => 120 | 23 => 121 | 24 => 122 | 25 => 123 | 26 => 124 | 27 => 125 | 46 => 132 | 47 => 133 | 48 => 134 | 49 => 135 | 50 => 136 | 57 => 141 | n => n, fun | 22 => 99 | 24 => 101 | 25 => 103 | 3 => 3 | 39 => 83 | 0 => 0 | 53 => 135 | 55 => 56 | 4 => 4 | 46 => 128 | 45 => 127 | 50 => 132 | 5 => 5 | 9 => 9 | 66 => 138 | 70 => 142 | 76 => 145 | 77 => 146 | n => n, fun | n => n⟩
theorem Tryd.sortHole : Go.Proofs.SlLaysF0.n6 Tryd.prog Tryd.sortHole_ren := {
  mixed := by kernel_rfl
  f6 := ⟨Tryd.f82.name, by decide, Tryd.func82.trans (congrArg some (by kernel_rfl))⟩
  f14 := ⟨Tryd.f107.name, by decide, Tryd.func107.trans (congrArg some (by kernel_rfl))⟩
  f15 := Tryd.func108.trans (congrArg some (by kernel_rfl))
  f20 := ⟨Tryd.f118.name, by decide, Tryd.func118.trans (congrArg some (by kernel_rfl))⟩
  f21 := ⟨Tryd.f119.name, by decide, Tryd.func119.trans (congrArg some (by kernel_rfl))⟩
  f22 := ⟨Tryd.f120.name, by decide, Tryd.func120.trans (congrArg some (by kernel_rfl))⟩
  f23 := ⟨Tryd.f121.name, by decide, Tryd.func121.trans (congrArg some (by kernel_rfl))⟩
  f24 := ⟨Tryd.f122.name, by decide, Tryd.func122.trans (congrArg some (by kernel_rfl))⟩
  f25 := ⟨Tryd.f123.name, by decide, Tryd.func123.trans (congrArg some (by kernel_rfl))⟩
  f26 := ⟨Tryd.f124.name, by decide, Tryd.func124.trans (congrArg some (by kernel_rfl))⟩
  f27 := ⟨Tryd.f125.name, by decide, Tryd.func125.trans (congrArg some (by kernel_rfl))⟩
  f28 := Tryd.func126.trans (congrArg some (by kernel_rfl))
  f29 := Tryd.func127.trans (congrArg some (by kernel_rfl))
  f46 := ⟨Tryd.f132.name, by decide, Tryd.func132.trans (congrArg some (by kernel_rfl))⟩
  f47 := Tryd.func133.trans (congrArg some (by kernel_rfl))
  f48 := Tryd.func134.trans (congrArg some (by kernel_rfl))
  f49 := ⟨Tryd.f135.name, by decide, Tryd.func135.trans (congrArg some (by kernel_rfl))⟩
  f50 := ⟨Tryd.f136.name, by decide, Tryd.func136.trans (congrArg some (by kernel_rfl))⟩
  f57 := ⟨Tryd.f141.name, by decide, Tryd.func141.trans (congrArg some (by kernel_rfl))⟩
  t0 := Tryd.underlying0
  a0 := Tryd.isAgg0
  z0 := Tryd.sizeOf0
  v0 := Tryd.zeroValue0
  t3 := Tryd.underlying3
  a3 := Tryd.isAgg3
  z3 := Tryd.sizeOf3
  v3 := Tryd.zeroValue3
  t4 := Tryd.underlying4
  a4 := Tryd.isAgg4
  z4 := Tryd.sizeOf4
  v4 := Tryd.zeroValue4
  t5 := Tryd.underlying5
  a5 := Tryd.isAgg5
  z5 := Tryd.sizeOf5
  v5 := Tryd.zeroValue5
  t9 := Tryd.underlying9
  a9 := Tryd.isAgg9
  z9 := Tryd.sizeOf9
  v9 := Tryd.zeroValue9
  t22 := Tryd.underlying99
  a22 := Tryd.isAgg99
  z22 := Tryd.sizeOf99
  v22 := Tryd.zeroValue99
  t25 := Tryd.underlying103
  a25 := Tryd.isAgg103
  z25 := Tryd.sizeOf103
  v25 := Tryd.zeroValue103
  t39 := Tryd.underlying83
  a39 := Tryd.isAgg83
  z39 := Tryd.sizeOf83
  v39 := Tryd.zeroValue83
  t45 := Tryd.underlying127
  a45 := Tryd.isAgg127
  z45 := Tryd.sizeOf127
  v45 := Tryd.zeroValue127
  t46 := Tryd.underlying128
  a46 := Tryd.isAgg128
  z46 := Tryd.sizeOf128
  v46 := Tryd.zeroValue128
  t50 := Tryd.underlying132
  a50 := Tryd.isAgg132
  z50 := Tryd.sizeOf132
  v50 := Tryd.zeroValue132
  t53 := Tryd.underlying135
  a53 := Tryd.isAgg135
  z53 := Tryd.sizeOf135
  v53 := Tryd.zeroValue135
  t55 := Tryd.underlying56
  a55 := Tryd.isAgg56
  z55 := Tryd.sizeOf56
  v55 := Tryd.zeroValue56
  t66 := Tryd.underlying138
  a66 := Tryd.isAgg138
  z66 := Tryd.sizeOf138
  v66 := Tryd.zeroValue138
  t70 := Tryd.underlying142
  a70 := Tryd.isAgg142
  z70 := Tryd.sizeOf142
  v70 := Tryd.zeroValue142
  t76 := Tryd.underlying145
  a76 := Tryd.isAgg145
  z76 := Tryd.sizeOf145
  v76 := Tryd.zeroValue145
  t77 := Tryd.underlying146
  a77 := Tryd.isAgg146
  z77 := Tryd.sizeOf146
  v77 := Tryd.zeroValue146 }
end Go.Proofs

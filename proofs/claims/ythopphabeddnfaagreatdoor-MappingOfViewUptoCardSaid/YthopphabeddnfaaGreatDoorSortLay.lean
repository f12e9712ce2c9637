/- What slices.SortFunc asks of this program, laid by the kit's tool. -/
import Derived.Shelf.SlGeneric
import Derived.Shelf.SlSortCmp.WholeK
import Derived.Ground.SlsfProg
import Derived.Test.YthopphabeddnfaaGreatDoorProg
namespace Go.Proofs
open Go.Shelf
def Tryz.sortHole_ren : Go.Shelf.Ren := ⟨fun | 6 => 38 | 15 => 66 | 14 => 65 | 28 => 93 | 29 => 94 | 20 => 85 | 21 => 86 | 22 => 87 | 23 => 88 | 24 => 89 | 25 => 90 | 26 => 91 | 27 => 92 | 46 => 109 | 47 => 110 | 48 => 111 | 49 => 112 | 50 => 113 | 57 => 122 | n => n, fun | 22 => 73 | 24 => 78 | 25 => 81 | 3 => 3 | 39 => 111 | 0 => 0 | 53 => 147 | 55 => 149 | 4 => 4 | 46 => 140 | 45 => 139 | 50 => 144 | 5 => 5 | 9 => 9 | 66 => 159 | 70 => 163 | 76 => 170 | 77 => 171 | n => n, fun | n => n⟩
theorem Tryz.sortHole : Go.Proofs.SlLaysF0.n6 Tryz.prog Tryz.sortHole_ren := {
  mixed := by kernel_rfl
  f6 := ⟨Tryz.f38.name, by decide, Tryz.func38.trans (congrArg some (by kernel_rfl))⟩
  f14 := ⟨Tryz.f65.name, by decide, Tryz.func65.trans (congrArg some (by kernel_rfl))⟩
  f15 := Tryz.func66.trans (congrArg some (by kernel_rfl))
  f20 := ⟨Tryz.f85.name, by decide, Tryz.func85.trans (congrArg some (by kernel_rfl))⟩
  f21 := ⟨Tryz.f86.name, by decide, Tryz.func86.trans (congrArg some (by kernel_rfl))⟩
  f22 := ⟨Tryz.f87.name, by decide, Tryz.func87.trans (congrArg some (by kernel_rfl))⟩
  f23 := ⟨Tryz.f88.name, by decide, Tryz.func88.trans (congrArg some (by kernel_rfl))⟩
  f24 := ⟨Tryz.f89.name, by decide, Tryz.func89.trans (congrArg some (by kernel_rfl))⟩
  f25 := ⟨Tryz.f90.name, by decide, Tryz.func90.trans (congrArg some (by kernel_rfl))⟩
  f26 := ⟨Tryz.f91.name, by decide, Tryz.func91.trans (congrArg some (by kernel_rfl))⟩
  f27 := ⟨Tryz.f92.name, by decide, Tryz.func92.trans (congrArg some (by kernel_rfl))⟩
  f28 := Tryz.func93.trans (congrArg some (by kernel_rfl))
  f29 := Tryz.func94.trans (congrArg some (by kernel_rfl))
  f46 := ⟨Tryz.f109.name, by decide, Tryz.func109.trans (congrArg some (by kernel_rfl))⟩
  f47 := Tryz.func110.trans (congrArg some (by kernel_rfl))
  f48 := Tryz.func111.trans (congrArg some (by kernel_rfl))
  f49 := ⟨Tryz.f112.name, by decide, Tryz.func112.trans (congrArg some (by kernel_rfl))⟩
  f50 := ⟨Tryz.f113.name, by decide, Tryz.func113.trans (congrArg some (by kernel_rfl))⟩
  f57 := ⟨Tryz.f122.name, by decide, Tryz.func122.trans (congrArg some (by kernel_rfl))⟩
  t0 := Tryz.underlying0
  a0 := Tryz.isAgg0
  z0 := Tryz.sizeOf0
  v0 := Tryz.zeroValue0
  t3 := Tryz.underlying3
  a3 := Tryz.isAgg3
  z3 := Tryz.sizeOf3
  v3 := Tryz.zeroValue3
  t4 := Tryz.underlying4
  a4 := Tryz.isAgg4
  z4 := Tryz.sizeOf4
  v4 := Tryz.zeroValue4
  t5 := Tryz.underlying5
  a5 := Tryz.isAgg5
  z5 := Tryz.sizeOf5
  v5 := Tryz.zeroValue5
  t9 := Tryz.underlying9
  a9 := Tryz.isAgg9
  z9 := Tryz.sizeOf9
  v9 := Tryz.zeroValue9
  t22 := Tryz.underlying73
  a22 := Tryz.isAgg73
  z22 := Tryz.sizeOf73
  v22 := Tryz.zeroValue73
  t25 := Tryz.underlying81
  a25 := Tryz.isAgg81
  z25 := Tryz.sizeOf81
  v25 := Tryz.zeroValue81
  t39 := Tryz.underlying111
  a39 := Tryz.isAgg111
  z39 := Tryz.sizeOf111
  v39 := Tryz.zeroValue111
  t45 := Tryz.underlying139
  a45 := Tryz.isAgg139
  z45 := Tryz.sizeOf139
  v45 := Tryz.zeroValue139
  t46 := Tryz.underlying140
  a46 := Tryz.isAgg140
  z46 := Tryz.sizeOf140
  v46 := Tryz.zeroValue140
  t50 := Tryz.underlying144
  a50 := Tryz.isAgg144
  z50 := Tryz.sizeOf144
  v50 := Tryz.zeroValue144
  t53 := Tryz.underlying147
  a53 := Tryz.isAgg147
  z53 := Tryz.sizeOf147
  v53 := Tryz.zeroValue147
  t55 := Tryz.underlying149
  a55 := Tryz.isAgg149
  z55 := Tryz.sizeOf149
  v55 := Tryz.zeroValue149
  t66 := Tryz.underlying159
  a66 := Tryz.isAgg159
  z66 := Tryz.sizeOf159
  v66 := Tryz.zeroValue159
  t70 := Tryz.underlying163
  a70 := Tryz.isAgg163
  z70 := Tryz.sizeOf163
  v70 := Tryz.zeroValue163
  t76 := Tryz.underlying170
  a76 := Tryz.isAgg170
  z76 := Tryz.sizeOf170
  v76 := Tryz.zeroValue170
  t77 := Tryz.underlying171
  a77 := Tryz.isAgg171
  z77 := Tryz.sizeOf171
  v77 := Tryz.zeroValue171 }
end Go.Proofs

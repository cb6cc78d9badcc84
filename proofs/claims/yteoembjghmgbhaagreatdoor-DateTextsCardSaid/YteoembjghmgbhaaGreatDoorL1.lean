/- The library's sort by a function of the caller's, laid at this program: its table of numbers, and each body compared by the kernel. -/
import Derived.Shelf.SlSortCmp.WholeK
import Derived.Test.YteoembjghmgbhaaGreatDoorC0
namespace Go.Proofs.YteoembjghmgbhaaGreatDoor
set_option linter.all false
open Go.Shelf

def sortSp_ren : Go.Shelf.Ren := ⟨fun | 6 => 54 | 15 => 72 | 14 => 71 | 28 => 93 | 29 => 94 | 20 => 85 | 21 => 86 | 22 => 87 | 23 => 88 | 24 => 89 | 25 => 90 | 26 => 91 | 27 => 92 | 46 => 102 | 47 => 103 | 48 => 104 | 49 => 105 | 50 => 106 | 57 => 109 | n => n, fun | 22 => 44 | 24 => 39 | 25 => 78 | 3 => 3 | 39 => 89 | 0 => 0 | 53 => 108 | 55 => 94 | 4 => 4 | 46 => 113 | 45 => 112 | 50 => 60 | 5 => 5 | 9 => 9 | 66 => 128 | 70 => 132 | 76 => 138 | 77 => 139 | n => n, fun | n => n⟩
theorem sortSp : Go.Proofs.SlLaysF0.n6 Tryz.prog sortSp_ren := {
  mixed := by kernel_rfl
  f6 := ⟨Tryz.f54.name, by decide, Tryz.func54.trans (congrArg some (by kernel_rfl))⟩
  f14 := ⟨Tryz.f71.name, by decide, Tryz.func71.trans (congrArg some (by kernel_rfl))⟩
  f15 := Tryz.func72.trans (congrArg some (by kernel_rfl))
  f20 := ⟨Tryz.f85.name, by decide, Tryz.func85.trans (congrArg some (by kernel_rfl))⟩
  f21 := ⟨Tryz.f86.name, by decide, Tryz.func86.trans (congrArg some (by kernel_rfl))⟩
  f22 := ⟨Tryz.f87.name, by decide, Tryz.func87.trans (congrArg some (by kernel_rfl))⟩
  f23 := ⟨Tryz.f88.name, by decide, Tryz.func88.trans (congrArg some (by kernel_rfl))⟩
  f24 := ⟨Tryz.f89.name, by decide, Tryz.func89.trans (congrArg some (by kernel_rfl))⟩
  f25 := ⟨Tryz.f90.name, by decide, Tryz.func90.trans (congrArg some (by kernel_rfl))⟩
  f26 := ⟨Tryz.f91.name, by decide, Tryz.func91.trans (congrArg some (by kernel_rfl))⟩
  f27 := ⟨Tryz.f92.name, by decide, Tryz.func92.trans (congrArg some (by kernel_rfl))⟩
  f28 := Tryz.func93.trans (congrArg some (by kernel_rfl))
  f29 := Tryz.func94.trans (congrArg some (by kernel_rfl))
  f46 := ⟨Tryz.f102.name, by decide, Tryz.func102.trans (congrArg some (by kernel_rfl))⟩
  f47 := Tryz.func103.trans (congrArg some (by kernel_rfl))
  f48 := Tryz.func104.trans (congrArg some (by kernel_rfl))
  f49 := ⟨Tryz.f105.name, by decide, Tryz.func105.trans (congrArg some (by kernel_rfl))⟩
  f50 := ⟨Tryz.f106.name, by decide, Tryz.func106.trans (congrArg some (by kernel_rfl))⟩
  f57 := ⟨Tryz.f109.name, by decide, Tryz.func109.trans (congrArg some (by kernel_rfl))⟩
  t0 := Tryz.underlying0
  a0 := Tryz.isAgg0
  z0 := Tryz.sizeOf0
  v0 := Tryz.zeroValue0
  t3 := Tryz.underlying3
  a3 := Tryz.isAgg3
  z3 := Tryz.sizeOf3
  v3 := Tryz.zeroValue3
  t4 := Tryz.underlying4
  a4 := Tryz.isAgg4
  z4 := Tryz.sizeOf4
  v4 := Tryz.zeroValue4
  t5 := Tryz.underlying5
  a5 := Tryz.isAgg5
  z5 := Tryz.sizeOf5
  v5 := Tryz.zeroValue5
  t9 := Tryz.underlying9
  a9 := Tryz.isAgg9
  z9 := Tryz.sizeOf9
  v9 := Tryz.zeroValue9
  t22 := Tryz.underlying44
  a22 := Tryz.isAgg44
  z22 := Tryz.sizeOf44
  v22 := Tryz.zeroValue44
  t25 := Tryz.underlying78
  a25 := Tryz.isAgg78
  z25 := Tryz.sizeOf78
  v25 := Tryz.zeroValue78
  t39 := Tryz.underlying89
  a39 := Tryz.isAgg89
  z39 := Tryz.sizeOf89
  v39 := Tryz.zeroValue89
  t45 := Tryz.underlying112
  a45 := Tryz.isAgg112
  z45 := Tryz.sizeOf112
  v45 := Tryz.zeroValue112
  t46 := Tryz.underlying113
  a46 := Tryz.isAgg113
  z46 := Tryz.sizeOf113
  v46 := Tryz.zeroValue113
  t50 := Tryz.underlying60
  a50 := Tryz.isAgg60
  z50 := Tryz.sizeOf60
  v50 := Tryz.zeroValue60
  t53 := Tryz.underlying108
  a53 := Tryz.isAgg108
  z53 := Tryz.sizeOf108
  v53 := Tryz.zeroValue108
  t55 := Tryz.underlying94
  a55 := Tryz.isAgg94
  z55 := Tryz.sizeOf94
  v55 := Tryz.zeroValue94
  t66 := Tryz.underlying128
  a66 := Tryz.isAgg128
  z66 := Tryz.sizeOf128
  v66 := Tryz.zeroValue128
  t70 := Tryz.underlying132
  a70 := Tryz.isAgg132
  z70 := Tryz.sizeOf132
  v70 := Tryz.zeroValue132
  t76 := Tryz.underlying138
  a76 := Tryz.isAgg138
  z76 := Tryz.sizeOf138
  v76 := Tryz.zeroValue138
  t77 := Tryz.underlying139
  a77 := Tryz.isAgg139
  z77 := Tryz.sizeOf139
  v77 := Tryz.zeroValue139 }
end Go.Proofs.YteoembjghmgbhaaGreatDoor

/-
  The closure of a library function, laid at this program (the numbers as the kit's command told them). No condition.
-/
import Derived.Shelf.SlLaysF0
import Derived.Test.YthdmbbfppgenlaaGreatProg
namespace Go.Proofs
open Go.Shelf
def Tryz.sortAcc_ren : Go.Shelf.Ren := ⟨fun | 6 => 35 | 15 => 59 | 14 => 58 | 28 => 80 | 29 => 81 | 20 => 72 | 21 => 73 | 22 => 74 | 23 => 75 | 24 => 76 | 25 => 77 | 26 => 78 | 27 => 79 | 46 => 93 | 47 => 94 | 48 => 95 | 49 => 96 | 50 => 97 | 57 => 102 | n => n, fun | 22 => 22 | 24 => 35 | 25 => 77 | 3 => 3 | 39 => 108 | 0 => 0 | 53 => 136 | 55 => 138 | 4 => 4 | 46 => 130 | 45 => 129 | 50 => 31 | 5 => 5 | 9 => 9 | 66 => 146 | 70 => 150 | 76 => 155 | 77 => 156 | n => n, fun | n => n⟩
theorem Tryz.sortAcc : SlLaysF0.n6 Tryz.prog Tryz.sortAcc_ren := {
  mixed := by kernel_rfl
  f6 := ⟨Tryz.f35.name, by decide, Tryz.func35.trans (congrArg some (by kernel_rfl))⟩
  f14 := ⟨Tryz.f58.name, by decide, Tryz.func58.trans (congrArg some (by kernel_rfl))⟩
  f15 := Tryz.func59.trans (congrArg some (by kernel_rfl))
  f20 := ⟨Tryz.f72.name, by decide, Tryz.func72.trans (congrArg some (by kernel_rfl))⟩
  f21 := ⟨Tryz.f73.name, by decide, Tryz.func73.trans (congrArg some (by kernel_rfl))⟩
  f22 := ⟨Tryz.f74.name, by decide, Tryz.func74.trans (congrArg some (by kernel_rfl))⟩
  f23 := ⟨Tryz.f75.name, by decide, Tryz.func75.trans (congrArg some (by kernel_rfl))⟩
  f24 := ⟨Tryz.f76.name, by decide, Tryz.func76.trans (congrArg some (by kernel_rfl))⟩
  f25 := ⟨Tryz.f77.name, by decide, Tryz.func77.trans (congrArg some (by kernel_rfl))⟩
  f26 := ⟨Tryz.f78.name, by decide, Tryz.func78.trans (congrArg some (by kernel_rfl))⟩
  f27 := ⟨Tryz.f79.name, by decide, Tryz.func79.trans (congrArg some (by kernel_rfl))⟩
  f28 := Tryz.func80.trans (congrArg some (by kernel_rfl))
  f29 := Tryz.func81.trans (congrArg some (by kernel_rfl))
  f46 := ⟨Tryz.f93.name, by decide, Tryz.func93.trans (congrArg some (by kernel_rfl))⟩
  f47 := Tryz.func94.trans (congrArg some (by kernel_rfl))
  f48 := Tryz.func95.trans (congrArg some (by kernel_rfl))
  f49 := ⟨Tryz.f96.name, by decide, Tryz.func96.trans (congrArg some (by kernel_rfl))⟩
  f50 := ⟨Tryz.f97.name, by decide, Tryz.func97.trans (congrArg some (by kernel_rfl))⟩
  f57 := ⟨Tryz.f102.name, by decide, Tryz.func102.trans (congrArg some (by kernel_rfl))⟩
  t0 := Tryz.underlying0
  a0 := Tryz.isAgg0
  z0 := Tryz.sizeOf0
  v0 := Tryz.zeroValue0
  t3 := Tryz.underlying3
  a3 := Tryz.isAgg3
  z3 := Tryz.sizeOf3
  v3 := Tryz.zeroValue3
  t4 := Tryz.underlying4
  a4 := Tryz.isAgg4
  z4 := Tryz.sizeOf4
  v4 := Tryz.zeroValue4
  t5 := Tryz.underlying5
  a5 := Tryz.isAgg5
  z5 := Tryz.sizeOf5
  v5 := Tryz.zeroValue5
  t9 := Tryz.underlying9
  a9 := Tryz.isAgg9
  z9 := Tryz.sizeOf9
  v9 := Tryz.zeroValue9
  t22 := Tryz.underlying22
  a22 := Tryz.isAgg22
  z22 := Tryz.sizeOf22
  v22 := Tryz.zeroValue22
  t25 := Tryz.underlying77
  a25 := Tryz.isAgg77
  z25 := Tryz.sizeOf77
  v25 := Tryz.zeroValue77
  t39 := Tryz.underlying108
  a39 := Tryz.isAgg108
  z39 := Tryz.sizeOf108
  v39 := Tryz.zeroValue108
  t45 := Tryz.underlying129
  a45 := Tryz.isAgg129
  z45 := Tryz.sizeOf129
  v45 := Tryz.zeroValue129
  t46 := Tryz.underlying130
  a46 := Tryz.isAgg130
  z46 := Tryz.sizeOf130
  v46 := Tryz.zeroValue130
  t50 := Tryz.underlying31
  a50 := Tryz.isAgg31
  z50 := Tryz.sizeOf31
  v50 := Tryz.zeroValue31
  t53 := Tryz.underlying136
  a53 := Tryz.isAgg136
  z53 := Tryz.sizeOf136
  v53 := Tryz.zeroValue136
  t55 := Tryz.underlying138
  a55 := Tryz.isAgg138
  z55 := Tryz.sizeOf138
  v55 := Tryz.zeroValue138
  t66 := Tryz.underlying146
  a66 := Tryz.isAgg146
  z66 := Tryz.sizeOf146
  v66 := Tryz.zeroValue146
  t70 := Tryz.underlying150
  a70 := Tryz.isAgg150
  z70 := Tryz.sizeOf150
  v70 := Tryz.zeroValue150
  t76 := Tryz.underlying155
  a76 := Tryz.isAgg155
  z76 := Tryz.sizeOf155
  v76 := Tryz.zeroValue155
  t77 := Tryz.underlying156
  a77 := Tryz.isAgg156
  z77 := Tryz.sizeOf156
  v77 := Tryz.zeroValue156
}
end Go.Proofs

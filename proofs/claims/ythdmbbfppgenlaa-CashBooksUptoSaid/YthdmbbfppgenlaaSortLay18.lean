/-
  The closure of a library function, laid at this program (the numbers as the kit's command told them). No condition.
-/
import Derived.Shelf.SlLaysF0
import Derived.Test.YthdmbbfppgenlaaProg
namespace Go.Proofs
open Go.Shelf
def Try.sortLed_ren : Go.Shelf.Ren := ⟨fun | 6 => 52 | 15 => 71 | 14 => 73 | 28 => 86 | 29 => 87 | 20 => 88 | 21 => 89 | 22 => 90 | 23 => 91 | 24 => 92 | 25 => 93 | 26 => 94 | 27 => 95 | 46 => 101 | 47 => 97 | 48 => 98 | 49 => 102 | 50 => 103 | 57 => 105 | n => n, fun | 22 => 99 | 24 => 98 | 25 => 103 | 3 => 3 | 39 => 126 | 0 => 0 | 53 => 142 | 55 => 144 | 4 => 4 | 46 => 136 | 45 => 135 | 50 => 38 | 5 => 5 | 9 => 9 | 66 => 150 | 70 => 154 | 76 => 158 | 77 => 159 | n => n, fun | n => n⟩
theorem Try.sortLed : SlLaysF0.n6 Try.prog Try.sortLed_ren := {
  mixed := by kernel_rfl
  f6 := ⟨Try.f52.name, by decide, Try.func52.trans (congrArg some (by kernel_rfl))⟩
  f14 := ⟨Try.f73.name, by decide, Try.func73.trans (congrArg some (by kernel_rfl))⟩
  f15 := Try.func71.trans (congrArg some (by kernel_rfl))
  f20 := ⟨Try.f88.name, by decide, Try.func88.trans (congrArg some (by kernel_rfl))⟩
  f21 := ⟨Try.f89.name, by decide, Try.func89.trans (congrArg some (by kernel_rfl))⟩
  f22 := ⟨Try.f90.name, by decide, Try.func90.trans (congrArg some (by kernel_rfl))⟩
  f23 := ⟨Try.f91.name, by decide, Try.func91.trans (congrArg some (by kernel_rfl))⟩
  f24 := ⟨Try.f92.name, by decide, Try.func92.trans (congrArg some (by kernel_rfl))⟩
  f25 := ⟨Try.f93.name, by decide, Try.func93.trans (congrArg some (by kernel_rfl))⟩
  f26 := ⟨Try.f94.name, by decide, Try.func94.trans (congrArg some (by kernel_rfl))⟩
  f27 := ⟨Try.f95.name, by decide, Try.func95.trans (congrArg some (by kernel_rfl))⟩
  f28 := Try.func86.trans (congrArg some (by kernel_rfl))
  f29 := Try.func87.trans (congrArg some (by kernel_rfl))
  f46 := ⟨Try.f101.name, by decide, Try.func101.trans (congrArg some (by kernel_rfl))⟩
  f47 := Try.func97.trans (congrArg some (by kernel_rfl))
  f48 := Try.func98.trans (congrArg some (by kernel_rfl))
  f49 := ⟨Try.f102.name, by decide, Try.func102.trans (congrArg some (by kernel_rfl))⟩
  f50 := ⟨Try.f103.name, by decide, Try.func103.trans (congrArg some (by kernel_rfl))⟩
  f57 := ⟨Try.f105.name, by decide, Try.func105.trans (congrArg some (by kernel_rfl))⟩
  t0 := Try.underlying0
  a0 := Try.isAgg0
  z0 := Try.sizeOf0
  v0 := Try.zeroValue0
  t3 := Try.underlying3
  a3 := Try.isAgg3
  z3 := Try.sizeOf3
  v3 := Try.zeroValue3
  t4 := Try.underlying4
  a4 := Try.isAgg4
  z4 := Try.sizeOf4
  v4 := Try.zeroValue4
  t5 := Try.underlying5
  a5 := Try.isAgg5
  z5 := Try.sizeOf5
  v5 := Try.zeroValue5
  t9 := Try.underlying9
  a9 := Try.isAgg9
  z9 := Try.sizeOf9
  v9 := Try.zeroValue9
  t22 := Try.underlying99
  a22 := Try.isAgg99
  z22 := Try.sizeOf99
  v22 := Try.zeroValue99
  t25 := Try.underlying103
  a25 := Try.isAgg103
  z25 := Try.sizeOf103
  v25 := Try.zeroValue103
  t39 := Try.underlying126
  a39 := Try.isAgg126
  z39 := Try.sizeOf126
  v39 := Try.zeroValue126
  t45 := Try.underlying135
  a45 := Try.isAgg135
  z45 := Try.sizeOf135
  v45 := Try.zeroValue135
  t46 := Try.underlying136
  a46 := Try.isAgg136
  z46 := Try.sizeOf136
  v46 := Try.zeroValue136
  t50 := Try.underlying38
  a50 := Try.isAgg38
  z50 := Try.sizeOf38
  v50 := Try.zeroValue38
  t53 := Try.underlying142
  a53 := Try.isAgg142
  z53 := Try.sizeOf142
  v53 := Try.zeroValue142
  t55 := Try.underlying144
  a55 := Try.isAgg144
  z55 := Try.sizeOf144
  v55 := Try.zeroValue144
  t66 := Try.underlying150
  a66 := Try.isAgg150
  z66 := Try.sizeOf150
  v66 := Try.zeroValue150
  t70 := Try.underlying154
  a70 := Try.isAgg154
  z70 := Try.sizeOf154
  v70 := Try.zeroValue154
  t76 := Try.underlying158
  a76 := Try.isAgg158
  z76 := Try.sizeOf158
  v76 := Try.zeroValue158
  t77 := Try.underlying159
  a77 := Try.isAgg159
  z77 := Try.sizeOf159
  v77 := Try.zeroValue159
}
end Go.Proofs

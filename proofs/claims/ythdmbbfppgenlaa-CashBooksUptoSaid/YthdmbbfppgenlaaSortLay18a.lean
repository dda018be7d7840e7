/-
  The closure of a library function, laid at this program (the numbers as the kit's command told them). No condition.
-/
import Derived.Shelf.SlLaysF0
import Derived.Test.YthdmbbfppgenlaaProg
namespace Go.Proofs
open Go.Shelf
def Try.sortAcc_ren : Go.Shelf.Ren := ⟨fun | 6 => 47 | 15 => 71 | 14 => 70 | 28 => 86 | 29 => 87 | 20 => 78 | 21 => 79 | 22 => 80 | 23 => 81 | 24 => 82 | 25 => 83 | 26 => 84 | 27 => 85 | 46 => 96 | 47 => 97 | 48 => 98 | 49 => 99 | 50 => 100 | 57 => 104 | n => n, fun | 22 => 58 | 24 => 33 | 25 => 92 | 3 => 3 | 39 => 126 | 0 => 0 | 53 => 142 | 55 => 144 | 4 => 4 | 46 => 136 | 45 => 135 | 50 => 38 | 5 => 5 | 9 => 9 | 66 => 150 | 70 => 154 | 76 => 158 | 77 => 159 | n => n, fun | n => n⟩
theorem Try.sortAcc : SlLaysF0.n6 Try.prog Try.sortAcc_ren := {
  mixed := by kernel_rfl
  f6 := ⟨Try.f47.name, by decide, Try.func47.trans (congrArg some (by kernel_rfl))⟩
  f14 := ⟨Try.f70.name, by decide, Try.func70.trans (congrArg some (by kernel_rfl))⟩
  f15 := Try.func71.trans (congrArg some (by kernel_rfl))
  f20 := ⟨Try.f78.name, by decide, Try.func78.trans (congrArg some (by kernel_rfl))⟩
  f21 := ⟨Try.f79.name, by decide, Try.func79.trans (congrArg some (by kernel_rfl))⟩
  f22 := ⟨Try.f80.name, by decide, Try.func80.trans (congrArg some (by kernel_rfl))⟩
  f23 := ⟨Try.f81.name, by decide, Try.func81.trans (congrArg some (by kernel_rfl))⟩
  f24 := ⟨Try.f82.name, by decide, Try.func82.trans (congrArg some (by kernel_rfl))⟩
  f25 := ⟨Try.f83.name, by decide, Try.func83.trans (congrArg some (by kernel_rfl))⟩
  f26 := ⟨Try.f84.name, by decide, Try.func84.trans (congrArg some (by kernel_rfl))⟩
  f27 := ⟨Try.f85.name, by decide, Try.func85.trans (congrArg some (by kernel_rfl))⟩
  f28 := Try.func86.trans (congrArg some (by kernel_rfl))
  f29 := Try.func87.trans (congrArg some (by kernel_rfl))
  f46 := ⟨Try.f96.name, by decide, Try.func96.trans (congrArg some (by kernel_rfl))⟩
  f47 := Try.func97.trans (congrArg some (by kernel_rfl))
  f48 := Try.func98.trans (congrArg some (by kernel_rfl))
  f49 := ⟨Try.f99.name, by decide, Try.func99.trans (congrArg some (by kernel_rfl))⟩
  f50 := ⟨Try.f100.name, by decide, Try.func100.trans (congrArg some (by kernel_rfl))⟩
  f57 := ⟨Try.f104.name, by decide, Try.func104.trans (congrArg some (by kernel_rfl))⟩
  t0 := Try.underlying0
  a0 := Try.isAgg0
  z0 := Try.sizeOf0
  v0 := Try.zeroValue0
  t3 := Try.underlying3
  a3 := Try.isAgg3
  z3 := Try.sizeOf3
  v3 := Try.zeroValue3
  t4 := Try.underlying4
  a4 := Try.isAgg4
  z4 := Try.sizeOf4
  v4 := Try.zeroValue4
  t5 := Try.underlying5
  a5 := Try.isAgg5
  z5 := Try.sizeOf5
  v5 := Try.zeroValue5
  t9 := Try.underlying9
  a9 := Try.isAgg9
  z9 := Try.sizeOf9
  v9 := Try.zeroValue9
  t22 := Try.underlying58
  a22 := Try.isAgg58
  z22 := Try.sizeOf58
  v22 := Try.zeroValue58
  t25 := Try.underlying92
  a25 := Try.isAgg92
  z25 := Try.sizeOf92
  v25 := Try.zeroValue92
  t39 := Try.underlying126
  a39 := Try.isAgg126
  z39 := Try.sizeOf126
  v39 := Try.zeroValue126
  t45 := Try.underlying135
  a45 := Try.isAgg135
  z45 := Try.sizeOf135
  v45 := Try.zeroValue135
  t46 := Try.underlying136
  a46 := Try.isAgg136
  z46 := Try.sizeOf136
  v46 := Try.zeroValue136
  t50 := Try.underlying38
  a50 := Try.isAgg38
  z50 := Try.sizeOf38
  v50 := Try.zeroValue38
  t53 := Try.underlying142
  a53 := Try.isAgg142
  z53 := Try.sizeOf142
  v53 := Try.zeroValue142
  t55 := Try.underlying144
  a55 := Try.isAgg144
  z55 := Try.sizeOf144
  v55 := Try.zeroValue144
  t66 := Try.underlying150
  a66 := Try.isAgg150
  z66 := Try.sizeOf150
  v66 := Try.zeroValue150
  t70 := Try.underlying154
  a70 := Try.isAgg154
  z70 := Try.sizeOf154
  v70 := Try.zeroValue154
  t76 := Try.underlying158
  a76 := Try.isAgg158
  z76 := Try.sizeOf158
  v76 := Try.zeroValue158
  t77 := Try.underlying159
  a77 := Try.isAgg159
  z77 := Try.sizeOf159
  v77 := Try.zeroValue159
}
end Go.Proofs

/-
  The closure of a library function, laid at this program (the numbers as the kit's command told them). No condition.
-/
import Derived.Shelf.SlLaysM
import Derived.Test.YthfaaimmfdidnaaProg
namespace Go.Proofs
open Go.Shelf
def Try.sortI_ren : Go.Shelf.Ren := ⟨fun | 5 => 58 | 8 => 62 | 7 => 65 | 19 => 74 | 20 => 75 | 10 => 76 | 11 => 77 | 12 => 78 | 13 => 79 | 14 => 80 | 15 => 81 | 16 => 82 | 17 => 83 | 18 => 84 | 30 => 90 | 31 => 86 | 32 => 87 | 33 => 91 | 34 => 92 | 35 => 63 | 40 => 94 | n => n, fun | 23 => 83 | 25 => 3 | 3 => 3 | 32 => 109 | 22 => 83 | 0 => 0 | 44 => 121 | 46 => 123 | 4 => 4 | 36 => 114 | 35 => 113 | 41 => 118 | 5 => 5 | 9 => 9 | 53 => 130 | 57 => 134 | 63 => 138 | 64 => 139 | n => n, fun | n => n⟩
theorem Try.sortI : SlLaysM.n5 Try.prog Try.sortI_ren := {
  mixed := by kernel_rfl
  f5 := ⟨Try.f58.name, by decide, Try.func58.trans (congrArg some (by kernel_rfl))⟩
  f7 := ⟨Try.f65.name, by decide, Try.func65.trans (congrArg some (by kernel_rfl))⟩
  f8 := Try.func62.trans (congrArg some (by kernel_rfl))
  f10 := ⟨Try.f76.name, by decide, Try.func76.trans (congrArg some (by kernel_rfl))⟩
  f11 := ⟨Try.f77.name, by decide, Try.func77.trans (congrArg some (by kernel_rfl))⟩
  f12 := ⟨Try.f78.name, by decide, Try.func78.trans (congrArg some (by kernel_rfl))⟩
  f13 := ⟨Try.f79.name, by decide, Try.func79.trans (congrArg some (by kernel_rfl))⟩
  f14 := ⟨Try.f80.name, by decide, Try.func80.trans (congrArg some (by kernel_rfl))⟩
  f15 := ⟨Try.f81.name, by decide, Try.func81.trans (congrArg some (by kernel_rfl))⟩
  f16 := ⟨Try.f82.name, by decide, Try.func82.trans (congrArg some (by kernel_rfl))⟩
  f17 := ⟨Try.f83.name, by decide, Try.func83.trans (congrArg some (by kernel_rfl))⟩
  f18 := ⟨Try.f84.name, by decide, Try.func84.trans (congrArg some (by kernel_rfl))⟩
  f19 := Try.func74.trans (congrArg some (by kernel_rfl))
  f20 := Try.func75.trans (congrArg some (by kernel_rfl))
  f30 := ⟨Try.f90.name, by decide, Try.func90.trans (congrArg some (by kernel_rfl))⟩
  f31 := Try.func86.trans (congrArg some (by kernel_rfl))
  f32 := Try.func87.trans (congrArg some (by kernel_rfl))
  f33 := ⟨Try.f91.name, by decide, Try.func91.trans (congrArg some (by kernel_rfl))⟩
  f34 := ⟨Try.f92.name, by decide, Try.func92.trans (congrArg some (by kernel_rfl))⟩
  f35 := ⟨Try.f63.name, by decide, Try.func63.trans (congrArg some (by kernel_rfl))⟩
  f40 := ⟨Try.f94.name, by decide, Try.func94.trans (congrArg some (by kernel_rfl))⟩
  t0 := Try.underlying0
  a0 := Try.isAgg0
  z0 := Try.sizeOf0
  v0 := Try.zeroValue0
  t3 := Try.underlying3
  a3 := Try.isAgg3
  z3 := Try.sizeOf3
  v3 := Try.zeroValue3
  t4 := Try.underlying4
  a4 := Try.isAgg4
  z4 := Try.sizeOf4
  v4 := Try.zeroValue4
  t5 := Try.underlying5
  a5 := Try.isAgg5
  z5 := Try.sizeOf5
  v5 := Try.zeroValue5
  t9 := Try.underlying9
  a9 := Try.isAgg9
  z9 := Try.sizeOf9
  v9 := Try.zeroValue9
  t22 := Try.underlying83
  a22 := Try.isAgg83
  z22 := Try.sizeOf83
  v22 := Try.zeroValue83
  t23 := Try.underlying83
  a23 := Try.isAgg83
  z23 := Try.sizeOf83
  v23 := Try.zeroValue83
  t25 := Try.underlying3
  a25 := Try.isAgg3
  z25 := Try.sizeOf3
  v25 := Try.zeroValue3
  t32 := Try.underlying109
  a32 := Try.isAgg109
  z32 := Try.sizeOf109
  v32 := Try.zeroValue109
  t35 := Try.underlying113
  a35 := Try.isAgg113
  z35 := Try.sizeOf113
  v35 := Try.zeroValue113
  t36 := Try.underlying114
  a36 := Try.isAgg114
  z36 := Try.sizeOf114
  v36 := Try.zeroValue114
  t41 := Try.underlying118
  a41 := Try.isAgg118
  z41 := Try.sizeOf118
  v41 := Try.zeroValue118
  t44 := Try.underlying121
  a44 := Try.isAgg121
  z44 := Try.sizeOf121
  v44 := Try.zeroValue121
  t46 := Try.underlying123
  a46 := Try.isAgg123
  z46 := Try.sizeOf123
  v46 := Try.zeroValue123
  t53 := Try.underlying130
  a53 := Try.isAgg130
  z53 := Try.sizeOf130
  v53 := Try.zeroValue130
  t57 := Try.underlying134
  a57 := Try.isAgg134
  z57 := Try.sizeOf134
  v57 := Try.zeroValue134
  t63 := Try.underlying138
  a63 := Try.isAgg138
  z63 := Try.sizeOf138
  v63 := Try.zeroValue138
  t64 := Try.underlying139
  a64 := Try.isAgg139
  z64 := Try.sizeOf139
  v64 := Try.zeroValue139
}
end Go.Proofs

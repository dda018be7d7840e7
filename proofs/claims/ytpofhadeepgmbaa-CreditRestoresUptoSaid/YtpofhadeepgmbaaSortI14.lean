/-
  The closure of a library function, laid at this program (the numbers as the kit's command told them). No condition.
-/
import Derived.Shelf.SlLaysM
import Derived.Test.YtpofhadeepgmbaaProg
namespace Go.Proofs
open Go.Shelf
def Try.sortI_ren : Go.Shelf.Ren := ⟨fun | 5 => 41 | 8 => 45 | 7 => 47 | 19 => 56 | 20 => 57 | 10 => 58 | 11 => 59 | 12 => 60 | 13 => 61 | 14 => 62 | 15 => 63 | 16 => 64 | 17 => 65 | 18 => 66 | 30 => 72 | 31 => 68 | 32 => 69 | 33 => 73 | 34 => 74 | 35 => 39 | 40 => 76 | n => n, fun | 23 => 83 | 25 => 3 | 3 => 3 | 32 => 97 | 22 => 83 | 0 => 0 | 44 => 109 | 46 => 111 | 4 => 4 | 36 => 102 | 35 => 101 | 41 => 106 | 5 => 5 | 9 => 9 | 53 => 118 | 57 => 122 | 63 => 126 | 64 => 127 | n => n, fun | n => n⟩
theorem Try.sortI : SlLaysM.n5 Try.prog Try.sortI_ren := {
  mixed := by kernel_rfl
  f5 := ⟨Try.f41.name, by decide, Try.func41.trans (congrArg some (by kernel_rfl))⟩
  f7 := ⟨Try.f47.name, by decide, Try.func47.trans (congrArg some (by kernel_rfl))⟩
  f8 := Try.func45.trans (congrArg some (by kernel_rfl))
  f10 := ⟨Try.f58.name, by decide, Try.func58.trans (congrArg some (by kernel_rfl))⟩
  f11 := ⟨Try.f59.name, by decide, Try.func59.trans (congrArg some (by kernel_rfl))⟩
  f12 := ⟨Try.f60.name, by decide, Try.func60.trans (congrArg some (by kernel_rfl))⟩
  f13 := ⟨Try.f61.name, by decide, Try.func61.trans (congrArg some (by kernel_rfl))⟩
  f14 := ⟨Try.f62.name, by decide, Try.func62.trans (congrArg some (by kernel_rfl))⟩
  f15 := ⟨Try.f63.name, by decide, Try.func63.trans (congrArg some (by kernel_rfl))⟩
  f16 := ⟨Try.f64.name, by decide, Try.func64.trans (congrArg some (by kernel_rfl))⟩
  f17 := ⟨Try.f65.name, by decide, Try.func65.trans (congrArg some (by kernel_rfl))⟩
  f18 := ⟨Try.f66.name, by decide, Try.func66.trans (congrArg some (by kernel_rfl))⟩
  f19 := Try.func56.trans (congrArg some (by kernel_rfl))
  f20 := Try.func57.trans (congrArg some (by kernel_rfl))
  f30 := ⟨Try.f72.name, by decide, Try.func72.trans (congrArg some (by kernel_rfl))⟩
  f31 := Try.func68.trans (congrArg some (by kernel_rfl))
  f32 := Try.func69.trans (congrArg some (by kernel_rfl))
  f33 := ⟨Try.f73.name, by decide, Try.func73.trans (congrArg some (by kernel_rfl))⟩
  f34 := ⟨Try.f74.name, by decide, Try.func74.trans (congrArg some (by kernel_rfl))⟩
  f35 := ⟨Try.f39.name, by decide, Try.func39.trans (congrArg some (by kernel_rfl))⟩
  f40 := ⟨Try.f76.name, by decide, Try.func76.trans (congrArg some (by kernel_rfl))⟩
  t0 := Try.underlying0
  a0 := Try.isAgg0
  z0 := Try.sizeOf0
  v0 := Try.zeroValue0
  t3 := Try.underlying3
  a3 := Try.isAgg3
  z3 := Try.sizeOf3
  v3 := Try.zeroValue3
  t4 := Try.underlying4
  a4 := Try.isAgg4
  z4 := Try.sizeOf4
  v4 := Try.zeroValue4
  t5 := Try.underlying5
  a5 := Try.isAgg5
  z5 := Try.sizeOf5
  v5 := Try.zeroValue5
  t9 := Try.underlying9
  a9 := Try.isAgg9
  z9 := Try.sizeOf9
  v9 := Try.zeroValue9
  t22 := Try.underlying83
  a22 := Try.isAgg83
  z22 := Try.sizeOf83
  v22 := Try.zeroValue83
  t23 := Try.underlying83
  a23 := Try.isAgg83
  z23 := Try.sizeOf83
  v23 := Try.zeroValue83
  t25 := Try.underlying3
  a25 := Try.isAgg3
  z25 := Try.sizeOf3
  v25 := Try.zeroValue3
  t32 := Try.underlying97
  a32 := Try.isAgg97
  z32 := Try.sizeOf97
  v32 := Try.zeroValue97
  t35 := Try.underlying101
  a35 := Try.isAgg101
  z35 := Try.sizeOf101
  v35 := Try.zeroValue101
  t36 := Try.underlying102
  a36 := Try.isAgg102
  z36 := Try.sizeOf102
  v36 := Try.zeroValue102
  t41 := Try.underlying106
  a41 := Try.isAgg106
  z41 := Try.sizeOf106
  v41 := Try.zeroValue106
  t44 := Try.underlying109
  a44 := Try.isAgg109
  z44 := Try.sizeOf109
  v44 := Try.zeroValue109
  t46 := Try.underlying111
  a46 := Try.isAgg111
  z46 := Try.sizeOf111
  v46 := Try.zeroValue111
  t53 := Try.underlying118
  a53 := Try.isAgg118
  z53 := Try.sizeOf118
  v53 := Try.zeroValue118
  t57 := Try.underlying122
  a57 := Try.isAgg122
  z57 := Try.sizeOf122
  v57 := Try.zeroValue122
  t63 := Try.underlying126
  a63 := Try.isAgg126
  z63 := Try.sizeOf126
  v63 := Try.zeroValue126
  t64 := Try.underlying127
  a64 := Try.isAgg127
  z64 := Try.sizeOf127
  v64 := Try.zeroValue127
}
end Go.Proofs

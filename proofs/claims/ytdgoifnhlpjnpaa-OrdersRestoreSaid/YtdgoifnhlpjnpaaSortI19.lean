/-
  The closure of a library function, laid at this program (the numbers as the kit's command told them). No condition.
-/
import Derived.Shelf.SlLaysM
import Derived.Test.YtdgoifnhlpjnpaaProg
namespace Go.Proofs
open Go.Shelf
def Try.sortI_ren : Go.Shelf.Ren := ⟨fun | 5 => 35 | 8 => 46 | 7 => 45 | 19 => 57 | 20 => 58 | 10 => 48 | 11 => 49 | 12 => 50 | 13 => 51 | 14 => 52 | 15 => 53 | 16 => 54 | 17 => 55 | 18 => 56 | 30 => 59 | 31 => 60 | 32 => 61 | 33 => 62 | 34 => 63 | 35 => 64 | 40 => 65 | n => n, fun | 23 => 39 | 25 => 3 | 3 => 3 | 32 => 102 | 22 => 39 | 0 => 0 | 44 => 113 | 46 => 115 | 4 => 4 | 36 => 106 | 35 => 105 | 41 => 94 | 5 => 5 | 9 => 9 | 53 => 116 | 57 => 120 | 63 => 122 | 64 => 123 | n => n, fun | n => n⟩
theorem Try.sortI : SlLaysM.n5 Try.prog Try.sortI_ren := {
  mixed := by kernel_rfl
  f5 := ⟨Try.f35.name, by decide, Try.func35.trans (congrArg some (by kernel_rfl))⟩
  f7 := ⟨Try.f45.name, by decide, Try.func45.trans (congrArg some (by kernel_rfl))⟩
  f8 := Try.func46.trans (congrArg some (by kernel_rfl))
  f10 := ⟨Try.f48.name, by decide, Try.func48.trans (congrArg some (by kernel_rfl))⟩
  f11 := ⟨Try.f49.name, by decide, Try.func49.trans (congrArg some (by kernel_rfl))⟩
  f12 := ⟨Try.f50.name, by decide, Try.func50.trans (congrArg some (by kernel_rfl))⟩
  f13 := ⟨Try.f51.name, by decide, Try.func51.trans (congrArg some (by kernel_rfl))⟩
  f14 := ⟨Try.f52.name, by decide, Try.func52.trans (congrArg some (by kernel_rfl))⟩
  f15 := ⟨Try.f53.name, by decide, Try.func53.trans (congrArg some (by kernel_rfl))⟩
  f16 := ⟨Try.f54.name, by decide, Try.func54.trans (congrArg some (by kernel_rfl))⟩
  f17 := ⟨Try.f55.name, by decide, Try.func55.trans (congrArg some (by kernel_rfl))⟩
  f18 := ⟨Try.f56.name, by decide, Try.func56.trans (congrArg some (by kernel_rfl))⟩
  f19 := Try.func57.trans (congrArg some (by kernel_rfl))
  f20 := Try.func58.trans (congrArg some (by kernel_rfl))
  f30 := ⟨Try.f59.name, by decide, Try.func59.trans (congrArg some (by kernel_rfl))⟩
  f31 := Try.func60.trans (congrArg some (by kernel_rfl))
  f32 := Try.func61.trans (congrArg some (by kernel_rfl))
  f33 := ⟨Try.f62.name, by decide, Try.func62.trans (congrArg some (by kernel_rfl))⟩
  f34 := ⟨Try.f63.name, by decide, Try.func63.trans (congrArg some (by kernel_rfl))⟩
  f35 := ⟨Try.f64.name, by decide, Try.func64.trans (congrArg some (by kernel_rfl))⟩
  f40 := ⟨Try.f65.name, by decide, Try.func65.trans (congrArg some (by kernel_rfl))⟩
  t0 := Try.underlying0
  a0 := Try.isAgg0
  z0 := Try.sizeOf0
  v0 := Try.zeroValue0
  t3 := Try.underlying3
  a3 := Try.isAgg3
  z3 := Try.sizeOf3
  v3 := Try.zeroValue3
  t4 := Try.underlying4
  a4 := Try.isAgg4
  z4 := Try.sizeOf4
  v4 := Try.zeroValue4
  t5 := Try.underlying5
  a5 := Try.isAgg5
  z5 := Try.sizeOf5
  v5 := Try.zeroValue5
  t9 := Try.underlying9
  a9 := Try.isAgg9
  z9 := Try.sizeOf9
  v9 := Try.zeroValue9
  t22 := Try.underlying39
  a22 := Try.isAgg39
  z22 := Try.sizeOf39
  v22 := Try.zeroValue39
  t23 := Try.underlying39
  a23 := Try.isAgg39
  z23 := Try.sizeOf39
  v23 := Try.zeroValue39
  t25 := Try.underlying3
  a25 := Try.isAgg3
  z25 := Try.sizeOf3
  v25 := Try.zeroValue3
  t32 := Try.underlying102
  a32 := Try.isAgg102
  z32 := Try.sizeOf102
  v32 := Try.zeroValue102
  t35 := Try.underlying105
  a35 := Try.isAgg105
  z35 := Try.sizeOf105
  v35 := Try.zeroValue105
  t36 := Try.underlying106
  a36 := Try.isAgg106
  z36 := Try.sizeOf106
  v36 := Try.zeroValue106
  t41 := Try.underlying94
  a41 := Try.isAgg94
  z41 := Try.sizeOf94
  v41 := Try.zeroValue94
  t44 := Try.underlying113
  a44 := Try.isAgg113
  z44 := Try.sizeOf113
  v44 := Try.zeroValue113
  t46 := Try.underlying115
  a46 := Try.isAgg115
  z46 := Try.sizeOf115
  v46 := Try.zeroValue115
  t53 := Try.underlying116
  a53 := Try.isAgg116
  z53 := Try.sizeOf116
  v53 := Try.zeroValue116
  t57 := Try.underlying120
  a57 := Try.isAgg120
  z57 := Try.sizeOf120
  v57 := Try.zeroValue120
  t63 := Try.underlying122
  a63 := Try.isAgg122
  z63 := Try.sizeOf122
  v63 := Try.zeroValue122
  t64 := Try.underlying123
  a64 := Try.isAgg123
  z64 := Try.sizeOf123
  v64 := Try.zeroValue123
}
end Go.Proofs

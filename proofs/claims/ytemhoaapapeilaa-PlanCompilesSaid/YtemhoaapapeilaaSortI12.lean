/-
  The closure of a library function, laid at this program (the numbers as the kit's command told them). No condition.
-/
import Derived.Shelf.SlLaysM
import Derived.Test.YtemhoaapapeilaaProg
namespace Go.Proofs
open Go.Shelf
def Try.sortI_ren : Go.Shelf.Ren := ⟨fun | 5 => 31 | 8 => 50 | 7 => 49 | 19 => 71 | 20 => 72 | 10 => 62 | 11 => 63 | 12 => 64 | 13 => 65 | 14 => 66 | 15 => 67 | 16 => 68 | 17 => 69 | 18 => 70 | 30 => 78 | 31 => 79 | 32 => 80 | 33 => 81 | 34 => 82 | 35 => 83 | 40 => 88 | n => n, fun | 23 => 36 | 25 => 3 | 3 => 3 | 32 => 106 | 22 => 36 | 0 => 0 | 44 => 62 | 46 => 130 | 4 => 4 | 36 => 122 | 35 => 121 | 41 => 77 | 5 => 5 | 9 => 9 | 53 => 135 | 57 => 139 | 63 => 144 | 64 => 145 | n => n, fun | n => n⟩
theorem Try.sortI : SlLaysM.n5 Try.prog Try.sortI_ren := {
  mixed := by kernel_rfl
  f5 := ⟨Try.f31.name, by decide, Try.func31.trans (congrArg some (by kernel_rfl))⟩
  f7 := ⟨Try.f49.name, by decide, Try.func49.trans (congrArg some (by kernel_rfl))⟩
  f8 := Try.func50.trans (congrArg some (by kernel_rfl))
  f10 := ⟨Try.f62.name, by decide, Try.func62.trans (congrArg some (by kernel_rfl))⟩
  f11 := ⟨Try.f63.name, by decide, Try.func63.trans (congrArg some (by kernel_rfl))⟩
  f12 := ⟨Try.f64.name, by decide, Try.func64.trans (congrArg some (by kernel_rfl))⟩
  f13 := ⟨Try.f65.name, by decide, Try.func65.trans (congrArg some (by kernel_rfl))⟩
  f14 := ⟨Try.f66.name, by decide, Try.func66.trans (congrArg some (by kernel_rfl))⟩
  f15 := ⟨Try.f67.name, by decide, Try.func67.trans (congrArg some (by kernel_rfl))⟩
  f16 := ⟨Try.f68.name, by decide, Try.func68.trans (congrArg some (by kernel_rfl))⟩
  f17 := ⟨Try.f69.name, by decide, Try.func69.trans (congrArg some (by kernel_rfl))⟩
  f18 := ⟨Try.f70.name, by decide, Try.func70.trans (congrArg some (by kernel_rfl))⟩
  f19 := Try.func71.trans (congrArg some (by kernel_rfl))
  f20 := Try.func72.trans (congrArg some (by kernel_rfl))
  f30 := ⟨Try.f78.name, by decide, Try.func78.trans (congrArg some (by kernel_rfl))⟩
  f31 := Try.func79.trans (congrArg some (by kernel_rfl))
  f32 := Try.func80.trans (congrArg some (by kernel_rfl))
  f33 := ⟨Try.f81.name, by decide, Try.func81.trans (congrArg some (by kernel_rfl))⟩
  f34 := ⟨Try.f82.name, by decide, Try.func82.trans (congrArg some (by kernel_rfl))⟩
  f35 := ⟨Try.f83.name, by decide, Try.func83.trans (congrArg some (by kernel_rfl))⟩
  f40 := ⟨Try.f88.name, by decide, Try.func88.trans (congrArg some (by kernel_rfl))⟩
  t0 := Try.underlying0
  a0 := Try.isAgg0
  z0 := Try.sizeOf0
  v0 := Try.zeroValue0
  t3 := Try.underlying3
  a3 := Try.isAgg3
  z3 := Try.sizeOf3
  v3 := Try.zeroValue3
  t4 := Try.underlying4
  a4 := Try.isAgg4
  z4 := Try.sizeOf4
  v4 := Try.zeroValue4
  t5 := Try.underlying5
  a5 := Try.isAgg5
  z5 := Try.sizeOf5
  v5 := Try.zeroValue5
  t9 := Try.underlying9
  a9 := Try.isAgg9
  z9 := Try.sizeOf9
  v9 := Try.zeroValue9
  t22 := Try.underlying36
  a22 := Try.isAgg36
  z22 := Try.sizeOf36
  v22 := Try.zeroValue36
  t23 := Try.underlying36
  a23 := Try.isAgg36
  z23 := Try.sizeOf36
  v23 := Try.zeroValue36
  t25 := Try.underlying3
  a25 := Try.isAgg3
  z25 := Try.sizeOf3
  v25 := Try.zeroValue3
  t32 := Try.underlying106
  a32 := Try.isAgg106
  z32 := Try.sizeOf106
  v32 := Try.zeroValue106
  t35 := Try.underlying121
  a35 := Try.isAgg121
  z35 := Try.sizeOf121
  v35 := Try.zeroValue121
  t36 := Try.underlying122
  a36 := Try.isAgg122
  z36 := Try.sizeOf122
  v36 := Try.zeroValue122
  t41 := Try.underlying77
  a41 := Try.isAgg77
  z41 := Try.sizeOf77
  v41 := Try.zeroValue77
  t44 := Try.underlying62
  a44 := Try.isAgg62
  z44 := Try.sizeOf62
  v44 := Try.zeroValue62
  t46 := Try.underlying130
  a46 := Try.isAgg130
  z46 := Try.sizeOf130
  v46 := Try.zeroValue130
  t53 := Try.underlying135
  a53 := Try.isAgg135
  z53 := Try.sizeOf135
  v53 := Try.zeroValue135
  t57 := Try.underlying139
  a57 := Try.isAgg139
  z57 := Try.sizeOf139
  v57 := Try.zeroValue139
  t63 := Try.underlying144
  a63 := Try.isAgg144
  z63 := Try.sizeOf144
  v63 := Try.zeroValue144
  t64 := Try.underlying145
  a64 := Try.isAgg145
  z64 := Try.sizeOf145
  v64 := Try.zeroValue145
}
end Go.Proofs

/-
  The closure of a library function, laid at this program (the numbers as the kit's command told them). No condition.
-/
import Derived.Shelf.SlLaysZI
import Derived.Test.YthfaaimmfdidnaaProg
namespace Go.Proofs
open Go.Shelf
def Try.sortedI_ren : Go.Shelf.Ren := ⟨fun | 6 => 31 | 8 => 57 | 9 => 58 | 11 => 64 | 13 => 62 | 12 => 65 | 23 => 74 | 24 => 75 | 14 => 76 | 15 => 77 | 16 => 78 | 17 => 79 | 18 => 80 | 19 => 81 | 20 => 82 | 21 => 83 | 22 => 84 | 25 => 90 | 26 => 86 | 27 => 87 | 28 => 91 | 29 => 92 | 30 => 63 | 31 => 94 | n => n, fun | 26 => 3 | 28 => 86 | 24 => 83 | 0 => 0 | 3 => 3 | 37 => 109 | 48 => 121 | 50 => 123 | 4 => 4 | 40 => 114 | 39 => 113 | 45 => 118 | 5 => 5 | 9 => 9 | 51 => 130 | 55 => 134 | 57 => 138 | 58 => 139 | 33 => 97 | n => n, fun | n => n⟩
theorem Try.sortedI : SlLaysZI.n6 Try.prog Try.sortedI_ren := {
  mixed := by kernel_rfl
  f6 := ⟨Try.f31.name, by decide, Try.func31.trans (congrArg some (by kernel_rfl))⟩
  f8 := ⟨Try.f57.name, by decide, Try.func57.trans (congrArg some (by kernel_rfl))⟩
  f11 := ⟨Try.f64.name, by decide, Try.func64.trans (congrArg some (by kernel_rfl))⟩
  t0 := Try.underlying0
  a0 := Try.isAgg0
  z0 := Try.sizeOf0
  v0 := Try.zeroValue0
  t24 := Try.underlying83
  a24 := Try.isAgg83
  z24 := Try.sizeOf83
  v24 := Try.zeroValue83
  t26 := Try.underlying3
  a26 := Try.isAgg3
  z26 := Try.sizeOf3
  v26 := Try.zeroValue3
  t28 := Try.underlying86
  a28 := Try.isAgg86
  z28 := Try.sizeOf86
  v28 := Try.zeroValue86
  i26 := by kernel_rfl
}
end Go.Proofs

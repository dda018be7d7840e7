/-
  The closure of a library function, laid at this program (the numbers as the kit's command told them). No condition.
-/
import Derived.Shelf.SlLaysZI
import Derived.Test.YtdgoifnhlpjnpaaProg
namespace Go.Proofs
open Go.Shelf
def Try.sortedI_ren : Go.Shelf.Ren := ⟨fun | 6 => 24 | 8 => 34 | 9 => 35 | 11 => 44 | 13 => 46 | 12 => 45 | 23 => 57 | 24 => 58 | 14 => 48 | 15 => 49 | 16 => 50 | 17 => 51 | 18 => 52 | 19 => 53 | 20 => 54 | 21 => 55 | 22 => 56 | 25 => 59 | 26 => 60 | 27 => 61 | 28 => 62 | 29 => 63 | 30 => 64 | 31 => 65 | n => n, fun | 26 => 3 | 28 => 77 | 24 => 39 | 0 => 0 | 3 => 3 | 37 => 102 | 48 => 113 | 50 => 115 | 4 => 4 | 40 => 106 | 39 => 105 | 45 => 94 | 5 => 5 | 9 => 9 | 51 => 116 | 55 => 120 | 57 => 122 | 58 => 123 | 33 => 90 | n => n, fun | n => n⟩
theorem Try.sortedI : SlLaysZI.n6 Try.prog Try.sortedI_ren := {
  mixed := by kernel_rfl
  f6 := ⟨Try.f24.name, by decide, Try.func24.trans (congrArg some (by kernel_rfl))⟩
  f8 := ⟨Try.f34.name, by decide, Try.func34.trans (congrArg some (by kernel_rfl))⟩
  f11 := ⟨Try.f44.name, by decide, Try.func44.trans (congrArg some (by kernel_rfl))⟩
  t0 := Try.underlying0
  a0 := Try.isAgg0
  z0 := Try.sizeOf0
  v0 := Try.zeroValue0
  t24 := Try.underlying39
  a24 := Try.isAgg39
  z24 := Try.sizeOf39
  v24 := Try.zeroValue39
  t26 := Try.underlying3
  a26 := Try.isAgg3
  z26 := Try.sizeOf3
  v26 := Try.zeroValue3
  t28 := Try.underlying77
  a28 := Try.isAgg77
  z28 := Try.sizeOf77
  v28 := Try.zeroValue77
  i26 := by kernel_rfl
}
end Go.Proofs

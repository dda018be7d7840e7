/-
  The closure of a library function, laid at this program (the numbers as the kit's command told them). No condition.
-/
import Derived.Shelf.SlLaysZI
import Derived.Test.YtpofhadeepgmbaaProg
namespace Go.Proofs
open Go.Shelf
def Try.sortedI_ren : Go.Shelf.Ren := ⟨fun | 6 => 32 | 8 => 40 | 9 => 41 | 11 => 46 | 13 => 45 | 12 => 47 | 23 => 56 | 24 => 57 | 14 => 58 | 15 => 59 | 16 => 60 | 17 => 61 | 18 => 62 | 19 => 63 | 20 => 64 | 21 => 65 | 22 => 66 | 25 => 72 | 26 => 68 | 27 => 69 | 28 => 73 | 29 => 74 | 30 => 39 | 31 => 76 | n => n, fun | 26 => 3 | 28 => 86 | 24 => 83 | 0 => 0 | 3 => 3 | 37 => 97 | 48 => 109 | 50 => 111 | 4 => 4 | 40 => 102 | 39 => 101 | 45 => 106 | 5 => 5 | 9 => 9 | 51 => 118 | 55 => 122 | 57 => 126 | 58 => 127 | 33 => 92 | n => n, fun | n => n⟩
theorem Try.sortedI : SlLaysZI.n6 Try.prog Try.sortedI_ren := {
  mixed := by kernel_rfl
  f6 := ⟨Try.f32.name, by decide, Try.func32.trans (congrArg some (by kernel_rfl))⟩
  f8 := ⟨Try.f40.name, by decide, Try.func40.trans (congrArg some (by kernel_rfl))⟩
  f11 := ⟨Try.f46.name, by decide, Try.func46.trans (congrArg some (by kernel_rfl))⟩
  t0 := Try.underlying0
  a0 := Try.isAgg0
  z0 := Try.sizeOf0
  v0 := Try.zeroValue0
  t24 := Try.underlying83
  a24 := Try.isAgg83
  z24 := Try.sizeOf83
  v24 := Try.zeroValue83
  t26 := Try.underlying3
  a26 := Try.isAgg3
  z26 := Try.sizeOf3
  v26 := Try.zeroValue3
  t28 := Try.underlying86
  a28 := Try.isAgg86
  z28 := Try.sizeOf86
  v28 := Try.zeroValue86
  i26 := by kernel_rfl
}
end Go.Proofs

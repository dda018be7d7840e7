/-
  Contracts of Int and Ordered, by the program and by the reference.
-/
import Derived.Test.YtnobnokmecdkcaaUint
import Derived.Laws.BitsAllLaws
import Derived.LoopN
namespace Go.Proofs.Ytnobnokmecdkcaa
open Go.RowKit

/-- A number with a sign, as one without. -/
def zig (v : Int) : Nat := if 0 ≤ v then (2 * v).toNat else (-2 * v - 1).toNat

theorem xor_ones (x : Nat) (h : x < 18446744073709551616) : x ^^^ 18446744073709551615 = 18446744073709551615 - x := by
  have h1 : (BitVec.ofNat 64 x ^^^ BitVec.allOnes 64).toNat = (~~~ BitVec.ofNat 64 x).toNat := by rw [BitVec.xor_allOnes]
  rw [BitVec.toNat_xor, BitVec.toNat_not, BitVec.toNat_ofNat, BitVec.toNat_allOnes, Nat.mod_eq_of_lt (by simpa using h)] at h1
  simpa using h1

theorem xor_top (x : Nat) (h : x < 9223372036854775808) : x ^^^ 9223372036854775808 = x + 9223372036854775808 := by
  have e : x + 9223372036854775808 = 2 ^ 63 * 1 + x := by omega
  rw [e, Nat.two_pow_add_eq_or_of_lt (by simpa using h)]
  apply Nat.eq_of_testBit_eq
  intro i
  rw [Nat.testBit_xor, Nat.testBit_or]
  by_cases hi : i = 63
  · subst hi
    have : x.testBit 63 = false := Nat.testBit_lt_two_pow (by simpa using h)
    rw [this]; rfl
  · have : (2 ^ 63 * 1).testBit i = false := by
      rw [Nat.mul_one, Nat.testBit_two_pow]; simp; omega
    rw [this]
    simp
theorem xor_top' (x : Nat) (h : x < 18446744073709551616) : x ^^^ 9223372036854775808 = (x + 9223372036854775808) % 18446744073709551616 := by
  by_cases hx : x < 9223372036854775808
  · rw [xor_top x hx, Nat.mod_eq_of_lt (by omega)]
  · have hy : x = (x - 9223372036854775808) ^^^ 9223372036854775808 := by rw [xor_top _ (by omega)]; omega
    rw [hy, Nat.xor_assoc, Nat.xor_self, Nat.xor_zero, ← hy]
    omega

theorem zig_xor (v : Int) (h : I64 v) : bits BinOp.xor IntKind.u64 (IntKind.u64.wrap (wrap64 (v * 2))) (IntKind.u64.wrap (v / 9223372036854775808)) = ((zig v : Nat) : Int) := by
  obtain ⟨h1, h2⟩ := h.bd
  have b1 : 0 ≤ IntKind.u64.wrap (wrap64 (v * 2)) ∧ IntKind.u64.wrap (wrap64 (v * 2)) < 18446744073709551616 := by rw [IntKind.wrap_u64]; omega
  by_cases h0 : 0 ≤ v
  · have e2 : IntKind.u64.wrap (v / 9223372036854775808) = 0 := by rw [IntKind.wrap_u64]; omega
    rw [e2, u64_xor _ _ b1.1 b1.2 (by omega) (by omega)]
    simp only [Int.toNat_zero, Nat.xor_zero]
    unfold zig
    rw [if_pos h0, IntKind.wrap_u64]
    unfold wrap64
    omega
  · have e2 : IntKind.u64.wrap (v / 9223372036854775808) = 18446744073709551615 := by rw [IntKind.wrap_u64]; omega
    rw [e2, u64_xor _ _ b1.1 b1.2 (by omega) (by omega)]
    rw [show ((18446744073709551615 : Int).toNat) = 18446744073709551615 from rfl, xor_ones _ (by omega)]
    unfold zig
    rw [if_neg h0, IntKind.wrap_u64]
    unfold wrap64
    omega

theorem zig_lt (v : Int) (h : I64 v) : zig v < 18446744073709551616 := by
  obtain ⟨h1, h2⟩ := h.bd
  unfold zig
  split <;> omega

set_option maxHeartbeats 1000000 in
theorem int_any (v : Int) (w : World) (hv : I64 v) :
    Calls Try.prog 13 #[.int .i64 v] w fun e w' => e = .returned (.string ⟨(ub (zig v)).toArray⟩) ∧ Below w.heap.size w w' := by
  obtain ⟨h1, h2⟩ := hv.bd
  go_enter Try.func13, Try.ntmps13
  go_wp2_with fail
  rw [zig_xor v hv]
  refine (uint_any (zig v) w (zig_lt v hv)).mono ?_
  rintro e w1 ⟨rfl, hb⟩
  go_wp2
  go_ret
  exact ⟨rfl, hb⟩

set_option maxHeartbeats 1000000 in
theorem rint_any (v : Int) (w : World) (hv : I64 v) :
    Calls Try.prog 14 #[.int .i64 v] w fun e w' => e = .returned (.string ⟨(ub (zig v)).toArray⟩) ∧ Below w.heap.size w w' := by
  obtain ⟨h1, h2⟩ := hv.bd
  have hz := zig_lt v hv
  go_enter Try.func14, Try.ntmps14
  by_cases h0 : 0 ≤ v
  · go_wp2_with fail
    rw [show v * 2 = ((zig v : Nat) : Int) from by unfold zig; rw [if_pos h0]; omega]
    refine (ruint_any (zig v) w hz).mono ?_
    rintro e w1 ⟨rfl, hb⟩
    go_wp2
    go_ret
    exact ⟨rfl, hb⟩
  · go_wp2_with fail
    rw [show -(v + 1) * 2 + 1 = ((zig v : Nat) : Int) from by unfold zig; rw [if_neg (by omega)]; omega]
    refine (ruint_any (zig v) w hz).mono ?_
    rintro e w1 ⟨rfl, hb⟩
    go_wp2
    go_ret
    exact ⟨rfl, hb⟩

end Go.Proofs.Ytnobnokmecdkcaa

/-
  The walk of PackBack.
-/
import Derived.Test.YtnobnokmecdkcaaShort
namespace Go.Proofs.Ytnobnokmecdkcaa
open Go.RowKit

/-- Bytes in order as numbers: of two ordered forms the lower number's comes first. -/
theorem be8_inj (a b : Nat) (ha : a < 18446744073709551616) (hb : b < 18446744073709551616) (h : be8 a = be8 b) : a = b := by
  simp only [be8, List.cons.injEq] at h
  have e : ∀ x y : Nat, (x % 256).toUInt8 = (y % 256).toUInt8 → x % 256 = y % 256 := fun x y h => by
    have := congrArg UInt8.toNat h
    simpa using this
  obtain ⟨h0, h1, h2, h3, h4, h5, h6, h7, _⟩ := h
  have := e _ _ h0; have := e _ _ h1; have := e _ _ h2; have := e _ _ h3
  have := e _ _ h4; have := e _ _ h5; have := e _ _ h6; have := e _ _ h7
  omega

theorem readO_at (pre : List UInt8) (s : ByteArray) (rest : List UInt8) (u : Nat) (hu : u < 18446744073709551616) (h : s.data.toList = pre ++ (be8 u ++ rest)) :
    readO s (pre.length : Int) = ((u : Int) - 9223372036854775808, (pre.length : Int) + 8, 0) := by
  have hz : s.size = pre.length + 8 + rest.length := by rw [size_list, h]; simp [be8]; omega
  have hb : ∀ j, j < 8 → byte s (pre.length + j) = ((be8 u).getD j 0).toNat := fun j hj => by
    rw [byte_split h, getD_app_left _ _ _ (by simpa [be8] using hj)]
  unfold readO
  rw [if_neg (by omega), Int.toNat_natCast]
  have e : ∀ x : Nat, ((x % 256).toUInt8).toNat = x % 256 := fun x => by simp
  have b0 := hb 0 (by omega); have b1 := hb 1 (by omega); have b2 := hb 2 (by omega); have b3 := hb 3 (by omega)
  have b4 := hb 4 (by omega); have b5 := hb 5 (by omega); have b6 := hb 6 (by omega); have b7 := hb 7 (by omega)
  simp only [be8, List.getD_cons_zero, List.getD_cons_succ, e] at b0 b1 b2 b3 b4 b5 b6 b7
  have : beN s pre.length 8 = u := by
    simp only [beN, b0, b1, b2, b3, b4, b5, b6, b7]
    omega
  rw [this]

theorem u8_lt (x y : Nat) : ((x % 256).toUInt8 < (y % 256).toUInt8) ↔ x % 256 < y % 256 := by
  rw [UInt8.lt_iff_toNat_lt]; simp
theorem u8_beq (x y : Nat) : ((x % 256).toUInt8 == (y % 256).toUInt8) = decide (x % 256 = y % 256) := by
  rw [Bool.eq_iff_iff, beq_iff_eq, decide_eq_true_eq]
  constructor
  · intro h
    have := congrArg UInt8.toNat h
    simpa using this
  · intro h; rw [h]

/-- The low k bytes of a number, the highest first. -/
def beL : Nat → Nat → List UInt8
  | 0, _ => []
  | k + 1, u => (u / 256 ^ k % 256).toUInt8 :: beL k u

theorem beL_less (k a b : Nat) : Op.bytesLess (beL k a) (beL k b) = decide (a % 256 ^ k < b % 256 ^ k) := by
  induction k with
  | zero => simp [beL, Op.bytesLess, Nat.mod_one]
  | succ k ih =>
    simp only [beL, Op.bytesLess, ih]
    rw [Bool.eq_iff_iff, Bool.or_eq_true, Bool.and_eq_true, u8_beq, decide_eq_true_eq, decide_eq_true_eq, decide_eq_true_eq, decide_eq_true_eq, u8_lt, Nat.pow_succ, Nat.mod_mul, Nat.mod_mul]
    have hp : 0 < 256 ^ k := Nat.pow_pos (by omega)
    have ra := Nat.mod_lt a hp
    have rb := Nat.mod_lt b hp
    generalize a / 256 ^ k % 256 = A
    generalize b / 256 ^ k % 256 = B
    generalize a % 256 ^ k = x at *
    generalize b % 256 ^ k = y at *
    generalize 256 ^ k = p at *
    rcases Nat.lt_trichotomy A B with h | h | h
    · have := Nat.mul_le_mul_left p (show A + 1 ≤ B from h)
      rw [Nat.mul_add] at this
      constructor
      · intro _; omega
      · intro _; exact .inl h
    · subst h
      constructor
      · rintro (h | h)
        · omega
        · omega
      · intro h; exact .inr ⟨rfl, by omega⟩
    · have := Nat.mul_le_mul_left p (show B + 1 ≤ A from h)
      rw [Nat.mul_add] at this
      constructor
      · rintro (h | h)
        · omega
        · omega
      · intro h; omega

theorem be8_beL (u : Nat) : be8 u = beL 8 u := by simp [be8, beL]

/-- Of two ordered forms the lower number's comes first. -/
theorem be8_less (a b : Nat) (ha : a < 18446744073709551616) (hb : b < 18446744073709551616) : Op.bytesLess (be8 a) (be8 b) = decide (a < b) := by
  have e : (256 : Nat) ^ 8 = 18446744073709551616 := by decide +kernel
  rw [be8_beL, be8_beL, beL_less, e, Nat.mod_eq_of_lt ha, Nat.mod_eq_of_lt hb]

end Go.Proofs.Ytnobnokmecdkcaa

/-
  Plain: what reading a number at a place gives.
-/
import Derived.Test.YtnobnokmecdkcaaText
import Derived.Laws.BitsAllLaws
namespace Go.Proofs.Ytnobnokmecdkcaa
open Go.RowKit

/-- Byte j of a text, as a number. -/
def byte (s : ByteArray) (j : Nat) : Nat := (s.data.toList.getD j 0).toNat

theorem byte_lt (s : ByteArray) (j : Nat) : byte s j < 256 := by unfold byte; exact UInt8.toNat_lt _

/-- The value of the bytes from p on, k of them, seven bits of each, the lowest first. -/
def val7 (s : ByteArray) (p : Nat) : Nat → Nat
  | 0 => 0
  | k + 1 => val7 s p k + byte s (p + k) % 128 * 128 ^ k

/-- The place of the first byte below 128 from p on, or nine bytes on, or the end. -/
def stop (s : ByteArray) (p : Nat) : Nat → Nat
  | 0 => p
  | f + 1 => if p < s.size ∧ 127 < byte s p then stop s (p + 1) f else p

/-- What reading at p answers: a number, the place behind it, an error. -/
def readU (s : ByteArray) (p : Int) : Nat × Int × Int :=
  if p < 0 ∨ (s.size : Int) ≤ p then (0, 0, 20) else
  let n := stop s p.toNat 9
  if n = s.size then (0, 0, 20)
  else if n = p.toNat + 9 ∧ 1 < byte s n then (0, 0, 21)
  else if p.toNat < n ∧ byte s n = 0 then (0, 0, 21)
  else (val7 s p.toNat (n + 1 - p.toNat), ((n + 1 : Nat) : Int), 0)

theorem readU_in (s : ByteArray) (p : Nat) (hp : p < s.size) : ∀ n, stop s p 9 = n → readU s (p : Int) = if n = s.size then (0, 0, 20) else if n = p + 9 ∧ 1 < byte s n then (0, 0, 21) else if p < n ∧ byte s n = 0 then (0, 0, 21) else (val7 s p (n + 1 - p), ((n + 1 : Nat) : Int), 0) := by
  intro n hn
  unfold readU
  rw [if_neg (by omega)]
  simp only [Int.toNat_natCast, hn]

theorem stop_ge (s : ByteArray) (p f : Nat) : p ≤ stop s p f := by
  induction f generalizing p with
  | zero => exact Nat.le_refl _
  | succ f ih =>
    unfold stop
    split
    · have := ih (p + 1); omega
    · exact Nat.le_refl _
theorem stop_le (s : ByteArray) (p f : Nat) : stop s p f ≤ p + f := by
  induction f generalizing p with
  | zero => exact Nat.le_refl _
  | succ f ih =>
    unfold stop
    split
    · have := ih (p + 1); omega
    · omega
theorem stop_size (s : ByteArray) (p f : Nat) (h : p ≤ s.size) : stop s p f ≤ s.size := by
  induction f generalizing p with
  | zero => exact h
  | succ f ih =>
    unfold stop
    split
    · rename_i h1; exact ih (p + 1) (by omega)
    · exact h
/-- Ahead of it all bytes are above 127. -/
theorem stop_high (s : ByteArray) (p f j : Nat) (h1 : p ≤ j) (h2 : j < stop s p f) : 127 < byte s j := by
  induction f generalizing p with
  | zero => unfold stop at h2; omega
  | succ f ih =>
    unfold stop at h2
    split at h2
    · rename_i h
      by_cases e : p = j
      · subst e; exact h.2
      · exact ih (p + 1) (by omega) h2
    · omega
/-- At it stands a byte below 128, unless it is the end or nine bytes on. -/
theorem stop_low (s : ByteArray) (p f : Nat) (h1 : stop s p f < s.size) (h2 : stop s p f < p + f) : byte s (stop s p f) < 128 := by
  induction f generalizing p with
  | zero => unfold stop at h2; omega
  | succ f ih =>
    unfold stop at h1 h2 ⊢
    split
    · rename_i h
      rw [if_pos h] at h1 h2
      exact ih (p + 1) h1 (by omega)
    · rename_i h
      rw [if_neg h] at h1
      omega
/-- It is the first of its kind. -/
theorem stop_is (s : ByteArray) (p f n : Nat) (h1 : p ≤ n) (h2 : n ≤ p + f) (h3 : n ≤ s.size) (h4 : ∀ j, p ≤ j → j < n → 127 < byte s j) (h5 : n = p + f ∨ n = s.size ∨ byte s n < 128) : stop s p f = n := by
  induction f generalizing p with
  | zero => unfold stop; omega
  | succ f ih =>
    unfold stop
    split
    · rename_i h
      have hne : p ≠ n := by
        rintro rfl
        rcases h5 with h5 | h5 | h5 <;> omega
      exact ih (p + 1) (by omega) (by omega) (fun j a b => h4 j (by omega) b) (by omega)
    · rename_i h
      by_cases e : p = n
      · exact e
      · have := h4 p (Nat.le_refl _) (by omega)
        exact absurd ⟨by omega, this⟩ h

theorem val7_lt (s : ByteArray) (p k : Nat) : val7 s p k < 128 ^ k := by
  induction k with
  | zero => simp [val7]
  | succ k ih =>
    unfold val7
    rw [Nat.pow_succ]
    have h : byte s (p + k) % 128 ≤ 127 := by omega
    have h2 : byte s (p + k) % 128 * 128 ^ k ≤ 127 * 128 ^ k := Nat.mul_le_mul_right _ h
    omega
/-- From the first byte on. -/
theorem val7_head (s : ByteArray) (p k : Nat) : val7 s p (k + 1) = byte s p % 128 + 128 * val7 s (p + 1) k := by
  induction k with
  | zero => simp [val7]
  | succ k ih =>
    rw [show val7 s p (k + 1 + 1) = val7 s p (k + 1) + byte s (p + (k + 1)) % 128 * 128 ^ (k + 1) from rfl, ih,
      show val7 s (p + 1) (k + 1) = val7 s (p + 1) k + byte s (p + 1 + k) % 128 * 128 ^ k from rfl, Nat.mul_add, Nat.pow_succ]
    rw [show p + (k + 1) = p + 1 + k from by omega]
    rw [show 128 * (byte s (p + 1 + k) % 128 * 128 ^ k) = byte s (p + 1 + k) % 128 * (128 ^ k * 128) from by
      rw [Nat.mul_left_comm, Nat.mul_comm 128 (128 ^ k)]]
    omega

theorem and127_all : ∀ x : Fin 256, bits BinOp.and IntKind.u8 (x.val : Int) 127 = ((x.val % 128 : Nat) : Int) := by decide +kernel
theorem and127 (x : Nat) (h : x < 256) : bits BinOp.and IntKind.u8 (x : Int) 127 = ((x % 128 : Nat) : Int) := and127_all ⟨x, h⟩

theorem pow7 (k : Nat) : (2 : Nat) ^ (7 * k) = 128 ^ k := by rw [Nat.pow_mul]

theorem val7_fits (s : ByteArray) (p k : Nat) (hk : k ≤ 9) (h9 : k = 9 → byte s (p + 9) ≤ 1) : byte s (p + k) % 128 * 128 ^ k ≤ 9223372036854775808 * 1 ∨ k < 9 ∧ byte s (p + k) % 128 * 128 ^ k < 9223372036854775808 := by
  have h3 : (128 : Nat) ^ 9 = 9223372036854775808 := by decide +kernel
  rcases Nat.lt_or_ge k 9 with h | h
  · right
    have h2 : 128 ^ (k + 1) ≤ 128 ^ 9 := Nat.pow_le_pow_right (by omega) (by omega)
    have h4 : byte s (p + k) % 128 * 128 ^ k ≤ 127 * 128 ^ k := Nat.mul_le_mul_right _ (by omega)
    have h5 : 0 < 128 ^ k := Nat.pow_pos (by omega)
    rw [Nat.pow_succ] at h2
    omega
  · left
    obtain rfl : k = 9 := by omega
    have hb := h9 rfl
    rw [h3]
    have h4 : byte s (p + 9) % 128 * 9223372036854775808 ≤ 1 * 9223372036854775808 := Nat.mul_le_mul_right _ (by omega)
    omega

theorem val7_u64 (s : ByteArray) (p k : Nat) (hk : k ≤ 9) (h9 : k = 9 → byte s (p + 9) ≤ 1) : val7 s p (k + 1) < 18446744073709551616 := by
  have h3 : (128 : Nat) ^ 9 = 9223372036854775808 := by decide +kernel
  have h1 := val7_lt s p k
  have h2 : 128 ^ k ≤ 128 ^ 9 := Nat.pow_le_pow_right (by omega) hk
  have := val7_fits s p k hk h9
  show val7 s p k + byte s (p + k) % 128 * 128 ^ k < _
  omega

/-- One byte more, as the program adds it. -/
theorem step7 (s : ByteArray) (p k : Nat) (hk : k ≤ 9) (h9 : k = 9 → byte s (p + 9) ≤ 1) :
    bits BinOp.or IntKind.u64 (val7 s p k : Int) (IntKind.u64.wrap (IntKind.u64.wrap (bits BinOp.and IntKind.u8 (byte s (p + k) : Int) 127) * 2 ^ (7 * k))) = ((val7 s p (k + 1) : Nat) : Int) := by
  have h3 : (128 : Nat) ^ 9 = 9223372036854775808 := by decide +kernel
  have h1 := val7_lt s p k
  have h2 : 128 ^ k ≤ 128 ^ 9 := Nat.pow_le_pow_right (by omega) hk
  have hf := val7_fits s p k hk h9
  rw [and127 _ (byte_lt s (p + k))]
  have e1 : IntKind.u64.wrap ((byte s (p + k) % 128 : Nat) : Int) = ((byte s (p + k) % 128 : Nat) : Int) := by rw [IntKind.wrap_u64]; omega
  rw [e1]
  have e2 : ((byte s (p + k) % 128 : Nat) : Int) * 2 ^ (7 * k) = ((byte s (p + k) % 128 * 128 ^ k : Nat) : Int) := by
    rw [Int.natCast_mul, ← pow7]
    norm_cast
  rw [e2]
  have e3 : IntKind.u64.wrap ((byte s (p + k) % 128 * 128 ^ k : Nat) : Int) = ((byte s (p + k) % 128 * 128 ^ k : Nat) : Int) := by rw [IntKind.wrap_u64]; omega
  rw [e3, u64_or_nat _ _ (by omega) (by omega)]
  congr 1
  show _ = val7 s p k + byte s (p + k) % 128 * 128 ^ k
  rw [Nat.or_comm, ← pow7, Nat.mul_comm, ← Nat.two_pow_add_eq_or_of_lt (by rw [pow7]; exact h1)]
  omega
end Go.Proofs.Ytnobnokmecdkcaa

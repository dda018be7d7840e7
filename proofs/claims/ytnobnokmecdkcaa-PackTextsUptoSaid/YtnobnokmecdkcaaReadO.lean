/-
  The contracts of ReadOrdered, at any place.
-/
import Derived.Test.YtnobnokmecdkcaaReadT
namespace Go.Proofs.Ytnobnokmecdkcaa
open Go.RowKit

/-- The number of k bytes from p on, the highest first. -/
def beN (s : ByteArray) (p : Nat) : Nat → Nat
  | 0 => 0
  | k + 1 => beN s p k * 256 + byte s (p + k)

theorem beN_lt (s : ByteArray) (p k : Nat) : beN s p k < 256 ^ k := by
  induction k with
  | zero => simp [beN]
  | succ k ih =>
    unfold beN
    have := byte_lt s (p + k)
    rw [Nat.pow_succ]
    omega

def readO (s : ByteArray) (p : Int) : Int × Int × Int :=
  if p < 0 ∨ (s.size : Int) - p < 8 then (0, 0, 20) else ((beN s p.toNat 8 : Int) - 9223372036854775808, p + 8, 0)

theorem beN_low (s : ByteArray) (p k : Nat) (hk : k < 8) : beN s p k < 72057594037927936 := by
  have h := beN_lt s p k
  have h2 : 256 ^ k ≤ 256 ^ 7 := Nat.pow_le_pow_right (by omega) (by omega)
  have h3 : (256 : Nat) ^ 7 = 72057594037927936 := by decide +kernel
  omega

theorem beN_or (s : ByteArray) (p k : Nat) (hk : k < 8) : bits BinOp.or IntKind.u64 (IntKind.u64.wrap ((beN s p k : Int) * 256)) (IntKind.u64.wrap (byte s (p + k) : Int)) = ((beN s p (k + 1) : Nat) : Int) := by
  have h := beN_low s p k hk
  have hb := byte_lt s (p + k)
  have e : IntKind.u64.wrap ((beN s p k : Int) * 256) = ((beN s p k * 256 : Nat) : Int) := by rw [IntKind.wrap_u64]; omega
  have e2 : IntKind.u64.wrap (byte s (p + k) : Int) = (byte s (p + k) : Int) := by rw [IntKind.wrap_u64]; omega
  rw [e, e2, u64_or_nat _ _ (by omega) (by omega), nat_join 8 _ _ (by omega) (by omega)]
  rfl

theorem beN_add (s : ByteArray) (p k : Nat) (hk : k < 8) : IntKind.u64.wrap (IntKind.u64.wrap ((beN s p k : Int) * 256) + IntKind.u64.wrap (byte s (p + k) : Int)) = ((beN s p (k + 1) : Nat) : Int) := by
  have h := beN_low s p k hk
  have hb := byte_lt s (p + k)
  show _ = ((beN s p k * 256 + byte s (p + k) : Nat) : Int)
  rw [IntKind.wrap_u64, IntKind.wrap_u64, IntKind.wrap_u64]
  omega
theorem beN_sub (u : Nat) (hu : u < 18446744073709551616) : wrap64 (IntKind.u64.wrap ((u : Int) - 9223372036854775808)) = (u : Int) - 9223372036854775808 := by
  rw [IntKind.wrap_u64]
  unfold wrap64
  omega

theorem beN_xor (u : Nat) (hu : u < 18446744073709551616) : wrap64 (bits BinOp.xor IntKind.u64 (u : Int) 9223372036854775808) = (u : Int) - 9223372036854775808 := by
  rw [u64_xor _ _ (by omega) (by omega) (by omega) (by omega), show ((9223372036854775808 : Int).toNat) = 9223372036854775808 from rfl, Int.toNat_natCast, xor_top' _ hu]
  unfold wrap64
  omega

theorem readOrdered_any (s : ByteArray) (p : Int) (w : World) (hs : s.size ≤ 9223372036854775000) :
    Calls Try.prog 23 #[.string s, .int .i64 p] w fun e w' => e = .returned (retI (readO s p)) ∧ w = w' := by
  by_cases hp : p < 0 ∨ (s.size : Int) - p < 8
  · have HR := hid (show readO s p = (0, 0, 20) from by unfold readO; rw [if_pos hp])
    go_enter Try.func23, Try.ntmps23
    by_cases h0 : p < 0
    · go_wp2
      go_ret3
      exact ⟨by rw [HR.out]; rfl, rfl⟩
    · by_cases h1 : (s.size : Int) < p
      · go_wp2
        go_ret3
        exact ⟨by rw [HR.out]; rfl, rfl⟩
      · have h2 : (s.size : Int) - p < 8 := by omega
        go_wp2
        go_ret3
        exact ⟨by rw [HR.out]; rfl, rfl⟩
  · obtain ⟨q, rfl⟩ : ∃ q : Nat, p = q := ⟨p.toNat, by omega⟩
    have HR := hid (show readO s q = ((beN s q 8 : Int) - 9223372036854775808, (q : Int) + 8, 0) from by unfold readO; rw [if_neg hp, Int.toNat_natCast])
    have h0 : ¬ (q : Int) < 0 := by omega
    have h1 : ¬ (s.size : Int) < q := by omega
    have h2 : ¬ (s.size : Int) - q < 8 := by omega
    have hq : q + 8 ≤ s.size := by omega
    clear hp
    go_enter Try.func23, Try.ntmps23
    go_wp2
    go_loop [7, 8, 24] (fun v _ i => ∃ k : Nat, k ≤ 8 ∧ i = .int .i64 k ∧ v = .int .u64 (beN s q k : Int)) (fun _ _ i => 8 - (intOf i).toNat)
    case atStart => exact ⟨0, by omega, rfl, rfl⟩
    case round =>
      obtain ⟨k, hk, rfl, rfl⟩ := hrel
      by_cases hk8 : k = 8
      · subst hk8
        have HX := hid (beN_xor (beN s q 8) (by have h := beN_lt s q 8; have h3 : (256 : Nat) ^ 8 = 18446744073709551616 := by decide +kernel
                                                omega))
        go_wp2
        go_ret3
        refine ⟨?_, rfl⟩
        rw [HR.out, ← HX.out]
        rfl
      · have g1 : (k : Int) < 8 := by omega
        have hlt : q + k < s.size := by omega
        have HB := hid (byte_at s (q + k) hlt)
        have HO := hid (beN_or s q k (by omega))
        clear hk8
        go_wp2
        go_round
        case rel => exact ⟨k + 1, by omega, by go_num, by rw [HB.out, HO.out]⟩
        case measure => simp [intOf]; omega


theorem rreadOrdered_any (s : ByteArray) (p : Int) (w : World) (hs : s.size ≤ 9223372036854775000) :
    Calls Try.prog 24 #[.string s, .int .i64 p] w fun e w' => e = .returned (retI (readO s p)) ∧ w = w' := by
  by_cases hp : p < 0 ∨ (s.size : Int) - p < 8
  · have HR := hid (show readO s p = (0, 0, 20) from by unfold readO; rw [if_pos hp])
    go_enter Try.func24, Try.ntmps24
    by_cases h0 : p < 0
    · go_wp2
      go_ret3
      exact ⟨by rw [HR.out]; rfl, rfl⟩
    · by_cases h1 : (s.size : Int) ≤ p
      · go_wp2
        go_ret3
        exact ⟨by rw [HR.out]; rfl, rfl⟩
      · have h2 : (s.size : Int) - p < 8 := by omega
        go_wp2
        go_ret3
        exact ⟨by rw [HR.out]; rfl, rfl⟩
  · obtain ⟨q, rfl⟩ : ∃ q : Nat, p = q := ⟨p.toNat, by omega⟩
    have HR := hid (show readO s q = ((beN s q 8 : Int) - 9223372036854775808, (q : Int) + 8, 0) from by unfold readO; rw [if_neg hp, Int.toNat_natCast])
    have h0 : ¬ (q : Int) < 0 := by omega
    have h1 : ¬ (s.size : Int) ≤ q := by omega
    have h2 : ¬ (s.size : Int) - q < 8 := by omega
    have hq : q + 8 ≤ s.size := by omega
    clear hp
    go_enter Try.func24, Try.ntmps24
    go_wp2
    go_loop [7, 8] (fun v i => ∃ k : Nat, k ≤ 8 ∧ i = .int .i64 k ∧ v = .int .u64 (beN s q k : Int)) (fun _ i => 8 - (intOf i).toNat)
    case atStart => exact ⟨0, by omega, rfl, rfl⟩
    case round =>
      obtain ⟨k, hk, rfl, rfl⟩ := hrel
      by_cases hk8 : k = 8
      · subst hk8
        have HX := hid (beN_sub (beN s q 8) (by have h := beN_lt s q 8; have h3 : (256 : Nat) ^ 8 = 18446744073709551616 := by decide +kernel
                                                omega))
        go_wp2
        go_ret3
        refine ⟨?_, rfl⟩
        rw [HR.out]
        exact ret3 HX.out rfl rfl
      · have g1 : (k : Int) < 8 := by omega
        have hlt : q + k < s.size := by omega
        have HB := hid (byte_at s (q + k) hlt)
        have HO := hid (beN_add s q k (by omega))
        clear hk8
        go_wp2
        go_round
        case rel => exact ⟨k + 1, by omega, by go_num, by rw [HB.out, HO.out]⟩
        case measure => simp [intOf]; omega


end Go.Proofs.Ytnobnokmecdkcaa

/-
  The walk of PackSizes.
-/
import Derived.Test.YtnobnokmecdkcaaText
namespace Go.Proofs.Ytnobnokmecdkcaa
open Go.RowKit

/-- n groups of seven bits of v are counted; x is what is left. -/
def Cnt (v n x : Nat) : Prop := ∃ f, x < 128 ^ f ∧ n + (if x = 0 then 0 else (leb f x).length) = (ub v).length

theorem leb_len_step {f x : Nat} (hf : 0 < f) (hx : x < 128 ^ f) : x / 128 < 128 ^ (f - 1) ∧ (leb f x).length = 1 + (if x / 128 = 0 then 0 else (leb (f - 1) (x / 128)).length) := by
  obtain ⟨g, rfl⟩ : ∃ g, f = g + 1 := ⟨f - 1, by omega⟩
  refine ⟨?_, ?_⟩
  · rw [Nat.pow_succ] at hx
    exact Nat.div_lt_of_lt_mul (by rw [Nat.mul_comm]; exact hx)
  · by_cases h : x < 128
    · rw [leb_small (by omega) h, if_pos (Nat.div_eq_of_lt h)]; rfl
    · rw [leb_big h, if_neg (by omega)]
      simp; omega
theorem Cnt.start {v : Nat} (h : v < 18446744073709551616) : Cnt v 1 (v / 128) := by
  obtain ⟨h1, h2⟩ := leb_len_step (f := 10) (x := v) (by omega) (by omega)
  exact ⟨9, h1, h2.symm⟩
theorem Cnt.step {v n x : Nat} (h : Cnt v n x) (hx : 0 < x) : Cnt v (n + 1) (x / 128) := by
  obtain ⟨f, h1, h2⟩ := h
  rcases Nat.eq_zero_or_pos f with h0 | h0
  · subst h0; simp at h1; omega
  · obtain ⟨h3, h4⟩ := leb_len_step h0 h1
    refine ⟨f - 1, h3, ?_⟩
    rw [if_neg (by omega), h4] at h2
    omega
theorem Cnt.end_ {v n : Nat} (h : Cnt v n 0) : n = (ub v).length := by
  obtain ⟨f, _, h2⟩ := h
  simpa using h2
theorem Cnt.le {v n x : Nat} (h : Cnt v n x) : n ≤ 10 := by
  obtain ⟨f, _, h2⟩ := h
  have := ub_len v
  omega

set_option maxHeartbeats 2000000 in
theorem packSizes_walk (n : Int) (s : ByteArray) (hn : 0 ≤ n ∧ n < 18446744073709551616) (hs : s.size ≤ 140737488351232) (w : World) :
    Calls Try.prog 4 #[.int .u64 n, .string s] w (Law w) := by
  obtain ⟨v, rfl⟩ := Int.eq_ofNat_of_zero_le hn.1
  have hv : v < 18446744073709551616 := by omega
  go_enter Try.func4, Try.ntmps4
  go_wp2
  go_loopw [5, 6] (fun n x wr => ∃ (k y : Nat), n = .int .i64 k ∧ x = .int .u64 y ∧ Cnt v k y ∧ y < 18446744073709551616 ∧ Below w.heap.size w wr) (fun _ x _ => (intOf x).toNat)
  case atStart => exact ⟨1, v / 128, rfl, by go_num, Cnt.start hv, by omega, Below.refl _ _⟩
  case round =>
    obtain ⟨k, y, rfl, rfl, hC, hy, hb0⟩ := hrel
    have hk := hC.le
    have HC := hid hC
    clear hC
    by_cases h0 : 0 < y
    · have h1 : (0 : Int) < y := by omega
      go_wp2
      go_roundw
      case rel => exact ⟨k + 1, y / 128, by go_num, by go_num, HC.out.step h0, by omega, hb0⟩
      case measure => simp [intOf]; omega
    · obtain rfl : y = 0 := by omega
      have HK := hid HC.out.end_
      clear h0
      go_wp2
      go_loopw [7, 8] (fun n x wr => ∃ (j y : Nat), n = .int .i64 j ∧ x = .int .i64 y ∧ Cnt s.size j y ∧ y ≤ 140737488351232 ∧ Below w.heap.size w wr) (fun _ x _ => (intOf x).toNat)
      case atStart => exact ⟨1, s.size / 128, rfl, by go_num, Cnt.start (by omega), by omega, hb0⟩
      case round =>
        clear hb0
        obtain ⟨j, y, rfl, rfl, hC, hy, hb0⟩ := hrel
        have hj := hC.le
        have HC2 := hid hC
        clear hC
        by_cases h0 : 0 < y
        · have h1 : (0 : Int) < y := by omega
          go_wp2
          go_roundw
          case rel => exact ⟨j + 1, y / 128, by go_num, by go_num, HC2.out.step h0, by omega, hb0⟩
          case measure => simp [intOf]; omega
        · obtain rfl : y = 0 := by omega
          have HJ := hid HC2.out.end_
          clear h0
          go_wp2_with fail
          refine (wakes_any _).mono ?_
          rintro e w1 ⟨rfl, hb1⟩
          have hb := bthen hb0 hb1
          clear hb1
          go_wp2_with fail
          refine (uint_any v w1 hv).mono ?_
          rintro e w2 ⟨rfl, hb1⟩
          replace hb := bthen hb hb1
          have z1 : (⟨(ub v).toArray⟩ : ByteArray).size = k := by rw [size_mk, ← HK.out]
          go_wp2_with fail
          refine (ordered_any (wrap64 v) w2 (by unfold I64; exact wrap64_wf _)).mono ?_
          rintro e w3 ⟨rfl, hb1⟩
          replace hb := bthen hb hb1
          have z2 : (⟨(be8 (lift (wrap64 v))).toArray⟩ : ByteArray).size = 8 := rfl
          go_wp2_with fail
          refine (text_any s w3 (by omega)).mono ?_
          rintro e w4 ⟨rfl, hb1⟩
          replace hb := bthen hb hb1
          have z3 : (txt s).size = j + s.size := by unfold txt; rw [ByteArray.size_append, size_mk, ← HJ.out]
          go_wp2
          go_ret
          exact ⟨rfl, hb⟩

end Go.Proofs.Ytnobnokmecdkcaa

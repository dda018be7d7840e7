/-
  Contracts of Text and of the law's wakes; the walk of PackNumbers.
-/
import Derived.Test.YtnobnokmecdkcaaOrd
namespace Go.Proofs.Ytnobnokmecdkcaa
open Go.RowKit

/-- A text with its length ahead. -/
def txt (s : ByteArray) : ByteArray := ⟨(ub s.size).toArray⟩ ++ s

theorem leb_len (f n : Nat) : (leb f n).length ≤ f := by
  induction f generalizing n with
  | zero => simp [leb]
  | succ f ih =>
    unfold leb
    split
    · simp
    · have := ih (n / 128); simp; omega
theorem ub_len (n : Nat) : (ub n).length ≤ 10 := leb_len 10 n
theorem size_mk (l : List UInt8) : (⟨l.toArray⟩ : ByteArray).size = l.length := by simp [ByteArray.size]

set_option maxHeartbeats 1000000 in
theorem text_any (s : ByteArray) (w : World) (hs : s.size ≤ 9223372036854775000) :
    Calls Try.prog 17 #[.string s] w fun e w' => e = .returned (.string (txt s)) ∧ Below w.heap.size w w' := by
  have hl := ub_len s.size
  have hz := size_mk (ub s.size)
  have HZ := hid hz
  have hz2 : (⟨(ub s.size).toArray⟩ : ByteArray).size ≤ 10 := by rw [hz]; exact hl
  clear hz
  go_enter Try.func17, Try.ntmps17
  go_wp2_with fail
  refine (uint_any s.size w (by omega)).mono ?_
  rintro e w1 ⟨rfl, hb⟩
  go_wp2
  go_ret
  exact ⟨rfl, hb⟩

set_option maxHeartbeats 1000000 in
theorem wakes_any (w : World) : Calls Try.prog 10 #[] w (Law w) := by
  go_enter Try.func10, Try.ntmps10
  go_wp2_with fail
  refine (uint_any 300 w (by omega)).mono ?_
  rintro e w1 ⟨rfl, hb⟩
  rw [show ub 300 = [172, 2] from by decide +kernel]
  go_wp2_with fail
  refine (int_any (-1) w1 (by unfold I64; decide)).mono ?_
  rintro e w2 ⟨rfl, hb1⟩
  replace hb := bthen hb hb1
  rw [show ub (zig (-1)) = [1] from by decide +kernel]
  go_wp2_with fail
  refine (text_any _ w2 (by decide)).mono ?_
  rintro e w3 ⟨rfl, hb2⟩
  replace hb := bthen hb hb2
  rw [show txt ⟨#[97, 98]⟩ = ⟨#[2, 97, 98]⟩ from by decide +kernel]
  go_wp2_with fail
  refine (ordered_any 0 w3 (by unfold I64; decide)).mono ?_
  rintro e w4 ⟨rfl, hb3⟩
  replace hb := bthen hb hb3
  rw [show be8 (lift 0) = [128, 0, 0, 0, 0, 0, 0, 0] from by decide +kernel]
  go_wp2
  go_ret
  exact ⟨rfl, hb⟩

set_option maxHeartbeats 1000000 in
theorem packNumbers_walk (n : Int) (v : Int) (hn : 0 ≤ n ∧ n < 18446744073709551616) (hv : I64 v) (w : World) :
    Calls Try.prog 3 #[.int .u64 n, .int .i64 v] w (Law w) := by
  obtain ⟨m, rfl⟩ := Int.eq_ofNat_of_zero_le hn.1
  have hm : m < 18446744073709551616 := by omega
  go_enter Try.func3, Try.ntmps3
  go_wp2_with fail
  refine (wakes_any w).mono ?_
  rintro e w1 ⟨rfl, hb⟩
  go_wp2_with fail
  refine (uint_any m w1 hm).mono ?_
  rintro e w2 ⟨rfl, hb1⟩
  replace hb := bthen hb hb1
  go_wp2_with fail
  refine (ruint_any m w2 hm).mono ?_
  rintro e w3 ⟨rfl, hb1⟩
  replace hb := bthen hb hb1
  generalize ub m = u1
  go_wp2_with fail
  refine (int_any v w3 hv).mono ?_
  rintro e w4 ⟨rfl, hb1⟩
  replace hb := bthen hb hb1
  go_wp2_with fail
  refine (rint_any v w4 hv).mono ?_
  rintro e w5 ⟨rfl, hb1⟩
  replace hb := bthen hb hb1
  generalize ub (zig v) = u2
  go_wp2_with fail
  refine (ordered_any v w5 hv).mono ?_
  rintro e w6 ⟨rfl, hb1⟩
  replace hb := bthen hb hb1
  go_wp2_with fail
  refine (rordered_any v w6 hv).mono ?_
  rintro e w7 ⟨rfl, hb1⟩
  replace hb := bthen hb hb1
  generalize be8 (lift v) = u3
  go_wp2
  go_ret
  exact ⟨rfl, hb⟩

end Go.Proofs.Ytnobnokmecdkcaa

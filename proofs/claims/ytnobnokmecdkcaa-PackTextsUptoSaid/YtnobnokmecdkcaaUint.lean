/-
  Contracts of Uint, by the program and by the reference: the one form of a number.
-/
import Derived.Test.YtnobnokmecdkcaaBuilder
import Derived.Test.YtnobnokmecdkcaaBytes
import Derived.Lib.VarintMem
namespace Go.Proofs.Ytnobnokmecdkcaa
open Go.RowKit

/-- The one form of a number, of at most f bytes. -/
def leb : Nat → Nat → List UInt8
  | 0, _ => []
  | f + 1, n => if n < 128 then [n.toUInt8] else (n % 128 + 128).toUInt8 :: leb f (n / 128)
def ub (n : Nat) : List UInt8 := leb 10 n

theorem leb_small {f n : Nat} (hf : 0 < f) (h : n < 128) : leb f n = [n.toUInt8] := by
  obtain ⟨g, rfl⟩ : ∃ g, f = g + 1 := ⟨f - 1, by omega⟩
  simp [leb, h]
theorem leb_big {f n : Nat} (h : ¬ n < 128) : leb (f + 1) n = (n % 128 + 128).toUInt8 :: leb f (n / 128) := by simp [leb, h]

/-- What is still to be written of n when the bytes l have been. -/
def Rest (n : Nat) (l : List UInt8) (f m : Nat) : Prop := l ++ leb f m = ub n ∧ 0 < f ∧ m < 128 ^ f ∧ l.length + f = 10
theorem Rest.start {n : Nat} (h : n < 18446744073709551616) : Rest n [] 10 n := ⟨rfl, by omega, by omega, rfl⟩
theorem Rest.step {n f m : Nat} {l : List UInt8} (h : Rest n l f m) (hm : ¬ m < 128) : ∃ g, f = g + 1 ∧ Rest n (l ++ [(m % 128 + 128).toUInt8]) g (m / 128) := by
  obtain ⟨h1, h2, h3, h4⟩ := h
  obtain ⟨g, rfl⟩ : ∃ g, f = g + 1 := ⟨f - 1, by omega⟩
  refine ⟨g, rfl, ?_, ?_, ?_, ?_⟩
  · rw [← h1, leb_big hm]; simp
  · rcases Nat.eq_zero_or_pos g with h0 | h0
    · subst h0; simp at h3; omega
    · exact h0
  · rw [Nat.pow_succ] at h3
    exact Nat.div_lt_of_lt_mul (by rw [Nat.mul_comm]; exact h3)
  · simp; omega
theorem Rest.end_ {n f m : Nat} {l : List UInt8} (h : Rest n l f m) (hm : m < 128) : l ++ [m.toUInt8] = ub n := by
  obtain ⟨h1, h2, _, _⟩ := h
  rw [← h1, leb_small h2 hm]

theorem or128_all : ∀ x : Fin 256, bits BinOp.or IntKind.u8 (x.val : Int) 128 = ((x.val % 128 + 128 : Nat) : Int) := by decide +kernel
theorem or128 (x : Nat) (h : x < 256) : bits BinOp.or IntKind.u8 (x : Int) 128 = ((x % 128 + 128 : Nat) : Int) := or128_all ⟨x, h⟩

set_option maxHeartbeats 1000000 in
theorem uint_any (n : Nat) (w : World) (hn : n < 18446744073709551616) :
    Calls Try.prog 11 #[.int .u64 n] w fun e w' => e = .returned (.string ⟨(ub n).toArray⟩) ∧ Below w.heap.size w w' := by
  go_enter Try.func11, Try.ntmps11
  go_wp2
  go_loopw [0] (fun v wr => ∃ (m f : Nat) (l : List UInt8), v = .int .u64 m ∧ Rest n l f m ∧ m < 18446744073709551616 ∧ Lib.IsBuilder 51 5 w.heap.size w.heap.size (Lib.byteCells l) wr ∧ Below w.heap.size w wr ∧ w.heap.size ≤ wr.heap.size) (fun v _ => (intOf v).toNat)
  case atStart => exact ⟨n, 10, [], rfl, Rest.start hn, hn, Lib.fresh_isBuilder _ _ w, (Below.refl _ _).alloc (Nat.le_refl _) _, by simp⟩
  case round =>
    obtain ⟨m, f, l, rfl, hR, hm, hB, hb, hs⟩ := hrel
    have hl10 : l.length ≤ 10 := by have := hR.2.2.2; omega
    have hbl : (Lib.byteCells l).length + 1 ≤ 140737488355328 := by rw [Lib.byteCells_length]; omega
    have HR := hid hR
    clear hR
    by_cases h : m < 128
    · have h1 : ¬ (127 : Int) < m := by omega
      go_wp2_with fail
      refine (writeByte_any w.heap.size w.heap.size (Lib.byteCells l) m wr hB hbl hs).mono ?_
      rintro e w1 ⟨rfl, hB1, hb1⟩
      rw [← Lib.byteCells_snoc l (by omega), Rest.end_ HR.out h] at hB1
      have hb2 := hb.trans hb1
      go_wp2_with fail
      refine (Try.Builder_String_any w.heap.size w.heap.size (ub n) w1 (Or.inr hB1) hb2.size).mono ?_
      rintro e w2 ⟨rfl, hb3⟩
      go_wp2
      go_ret
      exact ⟨rfl, hb2.trans hb3⟩
    · have h1 : (127 : Int) < m := by omega
      obtain ⟨g, rfl, hR2⟩ := HR.out.step h
      have HR2 := hid hR2
      clear hR2
      have ho := or128 (m % 256) (Nat.mod_lt _ (by omega))
      rw [Int.natCast_emod] at ho
      have HO := hid ho
      clear ho
      go_wp2_with fail
      rw [show bits BinOp.or IntKind.u8 ((m : Int) % 256) 128 = ((m % 128 + 128 : Nat) : Int) from by have := HO.out; rw [show m % 256 % 128 = m % 128 from by omega] at this; exact this]
      refine (writeByte_any w.heap.size w.heap.size (Lib.byteCells l) _ wr hB hbl hs).mono ?_
      rintro e w1 ⟨rfl, hB1, hb1⟩
      rw [← Lib.byteCells_snoc l (by omega)] at hB1
      go_wp2
      go_roundw
      case rel => exact ⟨m / 128, g, _, by go_num, HR2.out, by omega, Or.inr hB1, hb.trans hb1, by have := hb1.size; omega⟩
      case measure => simp [intOf]; omega

set_option maxHeartbeats 1000000 in
theorem ruint_any (n : Nat) (w : World) (hn : n < 18446744073709551616) :
    Calls Try.prog 12 #[.int .u64 n] w fun e w' => e = .returned (.string ⟨(ub n).toArray⟩) ∧ Below w.heap.size w w' := by
  obtain ⟨i0, hi, hz0, hz1, hz2⟩ := info_parts infoByte
  go_enter Try.func12, Try.ntmps12
  go_wp2
  go_loopw [0, 3] (fun v o wr => ∃ (m f : Nat) (l : List UInt8), v = .int .u64 m ∧ Rest n l f m ∧ m < 18446744073709551616 ∧ wr.ownsRow w.heap.size 5 1 o l.length (Lib.byteCells l) ∧ Below w.heap.size w wr) (fun v _ _ => (intOf v).toNat)
  case atStart => exact ⟨n, 10, [], rfl, Rest.start hn, hn, World.ownsRow_made w #[] 0 (Nat.le_refl _) (by unfold maxLen; omega) rfl, (Below.refl _ _).alloc (Nat.le_refl _) _⟩
  case round =>
    obtain ⟨m, f, l, rfl, hR, hm, hO, hb⟩ := hrel
    have hl10 : l.length ≤ 10 := by have := hR.2.2.2; omega
    have HR := hid hR
    clear hR
    by_cases h : m < 128
    · have h1 : ¬ (127 : Int) < m := by omega
      have hmm : ((m : Int) % 256) = m := by omega
      go_wp2_with (first
        | (at_builtin; refine wpList_push wr rfl _ _ 49 rfl w.heap.size 5 i0 _ 1 1 Try.underlying49 hi hz0 hz1 hz2 rfl (by decide) _ _ _ (by rfl) hO _ _ rfl (by rfl) (by rfl) (by rfl) (by unfold maxLen; omega) (by omega) hb.size ?_; intro v' w1 hO1 hg1))
      have hb1 : Below w.heap.size w w1 := (hb.alloc hb.size _).grown hg1 (by have := hb.size; simp; omega) (fun k hk => (hO.lt k hk).1)
      rw [← Lib.byteCells_snoc l (by omega)] at hO1
      rw [Rest.end_ HR.out h, show l.length + 1 = (ub n).length from by rw [← Rest.end_ HR.out h]; simp] at hO1
      have hcv := run_string_own w1 49 9 5 Try.underlying49 Try.underlying5 Try.underlying9 hO1
      clear hO1 hg1 hO hb
      rw [hcv]
      simp only [Result.andThen]
      rw [Oper.upon_value]
      go_wp2
      go_ret
      exact ⟨rfl, hb1⟩
    · have h1 : (127 : Int) < m := by omega
      obtain ⟨g, rfl, hR2⟩ := HR.out.step h
      have HR2 := hid hR2
      clear hR2
      go_wp2_with (first
        | (at_builtin; refine wpList_push wr rfl _ _ 49 rfl w.heap.size 5 i0 _ 1 1 Try.underlying49 hi hz0 hz1 hz2 rfl (by decide) _ _ _ (by rfl) hO _ _ rfl (by rfl) (by rfl) (by rfl) (by unfold maxLen; omega) (by omega) hb.size ?_; intro v' w1 hO1 hg1))
      have hb1 : Below w.heap.size w w1 := (hb.alloc hb.size _).grown hg1 (by have := hb.size; simp; omega) (fun k hk => (hO.lt k hk).1)
      have hv : (m : Int) % 128 + 128 = ((m % 128 + 128 : Nat) : Int) := by omega
      rw [hv, ← Lib.byteCells_snoc l (by omega)] at hO1
      clear hv
      go_roundw
      case rel => exact ⟨m / 128, g, _, by go_num, HR2.out, by omega, by simpa using hO1, hb1⟩
      case measure => simp [intOf]; omega
end Go.Proofs.Ytnobnokmecdkcaa

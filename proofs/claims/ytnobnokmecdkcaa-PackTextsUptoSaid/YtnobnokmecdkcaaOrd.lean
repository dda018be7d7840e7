/-
  Contracts of Ordered, by the program and by the reference.
-/
import Derived.Test.YtnobnokmecdkcaaInt
import Derived.Handy
namespace Go.Proofs.Ytnobnokmecdkcaa
open Go.RowKit

/-- Eight bytes, the highest first. -/
def be8 (u : Nat) : List UInt8 := [(u / 72057594037927936 % 256).toUInt8, (u / 281474976710656 % 256).toUInt8, (u / 1099511627776 % 256).toUInt8, (u / 4294967296 % 256).toUInt8, (u / 16777216 % 256).toUInt8, (u / 65536 % 256).toUInt8, (u / 256 % 256).toUInt8, (u % 256).toUInt8]
/-- A number with a sign, as one without that is in order. -/
def lift (v : Int) : Nat := (v + 9223372036854775808).toNat

theorem lift_lt (v : Int) (h : I64 v) : lift v < 18446744073709551616 := by
  obtain ⟨h1, h2⟩ := h.bd
  unfold lift; omega
theorem lift_xor (v : Int) (h : I64 v) : bits BinOp.xor IntKind.u64 (IntKind.u64.wrap v) 9223372036854775808 = ((lift v : Nat) : Int) := by
  obtain ⟨h1, h2⟩ := h.bd
  have b1 : 0 ≤ IntKind.u64.wrap v ∧ IntKind.u64.wrap v < 18446744073709551616 := by rw [IntKind.wrap_u64]; omega
  rw [u64_xor _ _ b1.1 b1.2 (by omega) (by omega), show ((9223372036854775808 : Int).toNat) = 9223372036854775808 from rfl, xor_top' _ (by omega), IntKind.wrap_u64]
  unfold lift
  omega

/-- .. as cells. -/
def be8c (u : Nat) : Array Value := #[.int .u8 ((u : Int) / 72057594037927936), .int .u8 ((u : Int) / 281474976710656 % 256), .int .u8 ((u : Int) / 1099511627776 % 256), .int .u8 ((u : Int) / 4294967296 % 256), .int .u8 ((u : Int) / 16777216 % 256), .int .u8 ((u : Int) / 65536 % 256), .int .u8 ((u : Int) / 256 % 256), .int .u8 ((u : Int) % 256)]
theorem be8_cells (u : Nat) (hu : u < 18446744073709551616) : Lib.byteCells (be8 u) = (be8c u).toList := by
  have e : ∀ x : Nat, (((x % 256).toUInt8.toNat : Nat) : Int) = ((x % 256 : Nat) : Int) := fun x => by simp
  simp only [be8, be8c, Lib.byteCells, List.map_cons, List.map_nil, e]
  rw [show ((u / 72057594037927936 % 256 : Nat) : Int) = (u : Int) / 72057594037927936 from by omega]
  simp

theorem rd_be8 (u : Nat) (hu : u < 18446744073709551616) (w : World) (t : TypeId) : Rd (w.alloc (.cells (be8c u) t)) (some ⟨w.heap.size, 0, none⟩) (Lib.byteCells (be8 u)) := by
  rw [be8_cells u hu]
  refine .inr ⟨w.heap.size, 0, rfl, by simp, fun j x hx => ?_⟩
  rw [cell_of_row _ _ _ _ t (0, 0) (heap_alloc_new w _), Nat.zero_add]
  simpa using hx

theorem be8_string (u : Nat) (hu : u < 18446744073709551616) (w : World) (t : TypeId) :
    (convert 49 9 (.slice (some ⟨w.heap.size, 0, none⟩) 8 8)).run Try.prog (w.alloc (.cells #[.int .u8 ((u : Int) / 72057594037927936), .int .u8 ((u : Int) / 281474976710656 % 256), .int .u8 ((u : Int) / 1099511627776 % 256), .int .u8 ((u : Int) / 4294967296 % 256), .int .u8 ((u : Int) / 16777216 % 256), .int .u8 ((u : Int) / 65536 % 256), .int .u8 ((u : Int) / 256 % 256), .int .u8 ((u : Int) % 256)] t)) = .ok (.string ⟨(be8 u).toArray⟩) (w.alloc (.cells #[.int .u8 ((u : Int) / 72057594037927936), .int .u8 ((u : Int) / 281474976710656 % 256), .int .u8 ((u : Int) / 1099511627776 % 256), .int .u8 ((u : Int) / 4294967296 % 256), .int .u8 ((u : Int) / 16777216 % 256), .int .u8 ((u : Int) / 65536 % 256), .int .u8 ((u : Int) / 256 % 256), .int .u8 ((u : Int) % 256)] t)) :=
  run_string_rd (P := Try.prog) (w.alloc (.cells (be8c u) t)) 49 9 5 Try.underlying49 Try.underlying5 Try.underlying9 (some ⟨w.heap.size, 0, none⟩) 8 8 (be8 u) rfl (rd_be8 u hu w t) (fun h => by cases h)

theorem be8_string' (u : Nat) (hu : u < 18446744073709551616) (w : World) (t : TypeId) :
    (convert 49 9 (.slice (some ⟨w.heap.size, 0, none⟩) 8 8)).run Try.prog (w.alloc (.cells #[.int .u8 ((u : Int) / 256 / 256 / 256 / 256 / 256 / 256 / 256 % 256), .int .u8 ((u : Int) / 256 / 256 / 256 / 256 / 256 / 256 % 256), .int .u8 ((u : Int) / 256 / 256 / 256 / 256 / 256 % 256), .int .u8 ((u : Int) / 256 / 256 / 256 / 256 % 256), .int .u8 ((u : Int) / 256 / 256 / 256 % 256), .int .u8 ((u : Int) / 256 / 256 % 256), .int .u8 ((u : Int) / 256 % 256), .int .u8 ((u : Int) % 256)] t)) = .ok (.string ⟨(be8 u).toArray⟩) (w.alloc (.cells #[.int .u8 ((u : Int) / 256 / 256 / 256 / 256 / 256 / 256 / 256 % 256), .int .u8 ((u : Int) / 256 / 256 / 256 / 256 / 256 / 256 % 256), .int .u8 ((u : Int) / 256 / 256 / 256 / 256 / 256 % 256), .int .u8 ((u : Int) / 256 / 256 / 256 / 256 % 256), .int .u8 ((u : Int) / 256 / 256 / 256 % 256), .int .u8 ((u : Int) / 256 / 256 % 256), .int .u8 ((u : Int) / 256 % 256), .int .u8 ((u : Int) % 256)] t)) := by
  have e0 : (u : Int) / 256 / 256 / 256 / 256 / 256 / 256 / 256 % 256 = (u : Int) / 72057594037927936 := by omega
  have e1 : (u : Int) / 256 / 256 / 256 / 256 / 256 / 256 % 256 = (u : Int) / 281474976710656 % 256 := by omega
  have e2 : (u : Int) / 256 / 256 / 256 / 256 / 256 % 256 = (u : Int) / 1099511627776 % 256 := by omega
  have e3 : (u : Int) / 256 / 256 / 256 / 256 % 256 = (u : Int) / 4294967296 % 256 := by omega
  have e4 : (u : Int) / 256 / 256 / 256 % 256 = (u : Int) / 16777216 % 256 := by omega
  have e5 : (u : Int) / 256 / 256 % 256 = (u : Int) / 65536 % 256 := by omega
  rw [e0, e1, e2, e3, e4, e5]
  exact be8_string u hu w t

set_option maxHeartbeats 4000000 in
theorem ordered_any (v : Int) (w : World) (hv : I64 v) :
    Calls Try.prog 15 #[.int .i64 v] w fun e w' => e = .returned (.string ⟨(be8 (lift v)).toArray⟩) ∧ Below w.heap.size w w' := by
  have HX := hid (lift_xor v hv)
  have hu := lift_lt v hv
  have hcv := be8_string (lift v) hu w 56
  go_enter Try.func15, Try.ntmps15
  go_wp2_with fail
  rw [HX.out]
  generalize hl : lift v = u at *
  have HL := hid hl
  clear hl
  refine wp_loop_rounds 9 ?_
  repeat any_goals (rw [rounds_succ]; go_wp2)
  go_ret
  exact ⟨by rw [HL.out]; rfl, (Below.refl _ _).alloc (Nat.le_refl _) _⟩

set_option maxHeartbeats 4000000 in
theorem rordered_any (v : Int) (w : World) (hv : I64 v) :
    Calls Try.prog 16 #[.int .i64 v] w fun e w' => e = .returned (.string ⟨(be8 (lift v)).toArray⟩) ∧ Below w.heap.size w w' := by
  have hu := lift_lt v hv
  have hx : IntKind.u64.wrap (IntKind.u64.wrap v + 9223372036854775808) = ((lift v : Nat) : Int) := by
    obtain ⟨h1, h2⟩ := hv.bd
    rw [IntKind.wrap_u64, IntKind.wrap_u64]; unfold lift; omega
  have HX := hid hx
  clear hx
  have hcv := be8_string' (lift v) hu w 5
  have hmk : ∀ w, (Instr.makeSlice 49 (.int .i64 8) (.int .i64 8)).run Try.prog w = .ok (.slice (some ⟨w.heap.size, 0, none⟩) 8 8) (w.alloc (.cells #[.int .u8 0, .int .u8 0, .int .u8 0, .int .u8 0, .int .u8 0, .int .u8 0, .int .u8 0, .int .u8 0] 5)) := fun _ => by kernel_rfl
  go_enter Try.func16, Try.ntmps16
  go_wp2_with fail
  rw [HX.out]
  generalize hl : lift v = u at *
  have HL := hid hl
  clear hl
  refine wp_loop_rounds 9 ?_
  repeat any_goals (rw [rounds_succ]; go_wp2)
  go_ret
  exact ⟨by rw [HL.out]; rfl, (Below.refl _ _).alloc (Nat.le_refl _) _⟩

end Go.Proofs.Ytnobnokmecdkcaa

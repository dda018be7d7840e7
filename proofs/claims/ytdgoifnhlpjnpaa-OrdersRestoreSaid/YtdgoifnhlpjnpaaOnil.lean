/-
  Layer 19: a nil book.
-/
import Derived.Test.YtdgoifnhlpjnpaaOall
namespace Go.Proofs.Ytdgoifnhlpjnpaa
open Go.RowKit Go.WideShapes Go.ChangeShapes Go.ChangeAt Go.Deep
set_option linter.unusedVariables false

theorem nil_get (id : Int) (w : World) : Calls Try.prog 15 #[.pointer none, .int .i64 id] w fun e w' => e = .returned (.tuple #[.agg #[.int .i64 0, .int .i64 0, .string ByteArray.empty, .slice none 0 0, .int .i64 0, .int .i64 0], .bool false]) ∧ Below w.heap.size w w' := by
  go_enter Try.func15, Try.ntmps15
  go_wp2_with fail
  refine bodyPost_ret (v := .tuple #[.agg #[.int .i64 0, .int .i64 0, .string ByteArray.empty, .slice none 0 0, .int .i64 0, .int .i64 0], .bool false]) (by simp [results, Try.results15, go_sem]; rfl) rfl ⟨rfl, (Below.refl _ _).alloc (Nat.le_refl _) _⟩
theorem nil_item (id p : Int) (w : World) : Calls Try.prog 11 #[.pointer none, .int .i64 id, .int .i64 p] w fun e w' => e = .returned (.int .i64 1) ∧ w = w' := by
  go_enter Try.func11, Try.ntmps11
  go_wp2_with fail
  go_ret
  exact ⟨rfl, rfl⟩
theorem nil_items (w : World) : Calls Try.prog 16 #[.pointer none] w fun e w' => e = .returned (.slice none 0 0) ∧ w = w' := by
  go_enter Try.func16, Try.ntmps16
  go_wp2_with fail
  go_ret
  exact ⟨rfl, rfl⟩
theorem nil_all (w : World) : Calls Try.prog 12 #[.pointer none] w fun e w' => e = .returned (.slice none 0 0) ∧ w = w' := by
  go_enter Try.func12, Try.ntmps12
  go_wp2_with fail
  go_ret
  exact ⟨rfl, rfl⟩
set_option maxRecDepth 100000 in
theorem nil_lines (id c : Int) (f : ByteArray) (w : World) : Calls Try.prog 27 #[.pointer none, .int .i64 id, .int .i64 c, .string f, .slice none 0 0] w fun e w' => e = .returned (.tuple #[.slice none 0 0, .int .i64 1]) ∧ w = w' := by
  go_enter Try.func27, Try.ntmps27
  go_wp2_with fail
  go_ret2
  exact ⟨rfl, rfl⟩
theorem nil_add (id c : Int) (f : ByteArray) (w : World) : Calls Try.prog 14 #[.pointer none, .int .i64 id, .int .i64 c, .string f, .slice none 0 0] w fun e w' => e = .returned (.int .i64 1) ∧ w = w' := by
  go_enter Try.func14, Try.ntmps14
  go_wp2_with (first | (go_at_call 27; refine (nil_lines _ _ _ _).mono ?_; rintro e w2 ⟨rfl, rfl⟩))
  go_ret
  exact ⟨rfl, rfl⟩
theorem nil_may (id c : Int) (f : ByteArray) (w : World) : Calls Try.prog 13 #[.pointer none, .int .i64 id, .int .i64 c, .string f, .slice none 0 0] w fun e w' => e = .returned (.int .i64 1) ∧ w = w' := by
  go_enter Try.func13, Try.ntmps13
  go_wp2_with (first | (go_at_call 27; refine (nil_lines _ _ _ _).mono ?_; rintro e w2 ⟨rfl, rfl⟩))
  go_ret
  exact ⟨rfl, rfl⟩

end Go.Proofs.Ytdgoifnhlpjnpaa

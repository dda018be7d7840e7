/-
  The builtin 'min' of integers.
-/
import Derived.Test.YthfaaimmfdidnaaBase
namespace Go.Proofs.Ythfaaimmfdidnaa
open Go.RowKit
set_option linter.unusedVariables false

theorem min2_run {P : Program} (a b : Int) : ∃ m, (∀ w, (Builtin.min2 (.int .i64 a) (.int .i64 b)).run P w = .ok (.int .i64 m) w) ∧ (m = a ∨ m = b) := by
  by_cases h : b < a
  · exact ⟨b, fun w => by unfold Builtin.min2; simp [h], .inr rfl⟩
  · exact ⟨a, fun w => by unfold Builtin.min2; simp [h], .inl rfl⟩
theorem min4_run {P : Program} (ts : Array TypeId) (t : TypeId) (a b c d : Int) : ∃ m, (∀ w, (Builtin.min_ ts t #[.int .i64 a, .int .i64 b, .int .i64 c, .int .i64 d]).run P w = .ok (.int .i64 m) w) ∧ (m = a ∨ m = b ∨ m = c ∨ m = d) := by
  obtain ⟨m1, h1, e1⟩ := min2_run (P := P) a b
  obtain ⟨m2, h2, e2⟩ := min2_run (P := P) m1 c
  obtain ⟨m3, h3, e3⟩ := min2_run (P := P) m2 d
  refine ⟨m3, fun w => ?_, by omega⟩
  unfold Builtin.min_
  simp [List.foldlM, h1, h2, h3]

end Go.Proofs.Ythfaaimmfdidnaa

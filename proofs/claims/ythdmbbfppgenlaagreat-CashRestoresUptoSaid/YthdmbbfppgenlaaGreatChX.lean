/-
  Money of orders: a nil book.
-/
import Derived.Test.YthdmbbfppgenlaaGreatChU
namespace Go.Proofs.YthdmbbfppgenlaaGreat
open Go.RowKit Go.WideShapes Go.ChangeShapes Go.ChangeAt Go.Deep
set_option linter.unusedVariables false

theorem cnil_inv (o c n t : Int) (w : World) : Calls Tryz.prog 4 #[.pointer none, .int .i64 o, .int .i64 c, .int .i64 n, .int .i64 t] w fun e w' => e = .returned (.tuple #[.bool false, .int .i64 1]) ∧ w = w' := by
  go_enter Tryz.func4, Tryz.ntmps4
  go_wp2_with fail
  go_ret2
  exact ⟨rfl, rfl⟩
theorem cnil_rcv (o c n : Int) (w : World) : Calls Tryz.prog 5 #[.pointer none, .int .i64 o, .int .i64 c, .int .i64 n] w fun e w' => e = .returned (.tuple #[.bool false, .int .i64 1]) ∧ w = w' := by
  go_enter Tryz.func5, Tryz.ntmps5
  go_wp2_with fail
  go_ret2
  exact ⟨rfl, rfl⟩
theorem cnil_ref (o : Int) (w : World) : Calls Tryz.prog 6 #[.pointer none, .int .i64 o] w fun e w' => e = .returned (.tuple #[.int .i64 0, .int .i64 1]) ∧ w = w' := by
  go_enter Tryz.func6, Tryz.ntmps6
  go_wp2_with fail
  refine (find_nil _ _).mono ?_
  rintro e w2 ⟨rfl, rfl⟩
  go_wp2_with fail
  go_ret2
  exact ⟨rfl, rfl⟩
theorem cnil_wof (o : Int) (w : World) : Calls Tryz.prog 10 #[.pointer none, .int .i64 o] w fun e w' => e = .returned (.int .i64 1) ∧ w = w' := by
  go_enter Tryz.func10, Tryz.ntmps10
  go_wp2_with fail
  refine (find_nil _ _).mono ?_
  rintro e w2 ⟨rfl, rfl⟩
  go_wp2_with fail
  go_ret
  exact ⟨rfl, rfl⟩
theorem cnil_mem (o : Int) (w : World) : Calls Tryz.prog 11 #[.pointer none, .int .i64 o] w fun e w' => e = .returned (.int .i64 1) ∧ w = w' := by
  go_enter Tryz.func11, Tryz.ntmps11
  go_wp2_with fail
  refine (find_nil _ _).mono ?_
  rintro e w2 ⟨rfl, rfl⟩
  go_wp2_with fail
  go_ret
  exact ⟨rfl, rfl⟩
theorem cnil_dun (o : Int) (w : World) : Calls Tryz.prog 7 #[.pointer none, .int .i64 o] w fun e w' => e = .returned (.tuple #[.int .i64 0, .bool false]) ∧ w = w' := by
  go_enter Tryz.func7, Tryz.ntmps7
  go_wp2_with fail
  refine (find_nil _ _).mono ?_
  rintro e w2 ⟨rfl, rfl⟩
  go_wp2_with fail
  go_ret2
  exact ⟨rfl, rfl⟩
theorem cnil_open (o : Int) (w : World) : Calls Tryz.prog 12 #[.pointer none, .int .i64 o] w fun e w' => e = .returned (.int .i64 0) ∧ w = w' := by
  go_enter Tryz.func12, Tryz.ntmps12
  go_wp2_with fail
  refine (find_nil _ _).mono ?_
  rintro e w2 ⟨rfl, rfl⟩
  go_wp2_with fail
  go_ret
  exact ⟨rfl, rfl⟩
theorem cnil_get (o : Int) (w : World) : Calls Tryz.prog 8 #[.pointer none, .int .i64 o] w fun e w' => e = .returned (.tuple #[.agg #[.int .i64 0, .int .i64 0, .int .i64 0, .int .i64 0, .int .i64 0, .int .i64 0, .int .i64 0, .int .i64 0, .int .i64 0], .bool false]) ∧ Below w.heap.size w w' := by
  go_enter Tryz.func8, Tryz.ntmps8
  go_wp2_with fail
  refine (find_nil _ _).mono ?_
  rintro e w2 ⟨rfl, rfl⟩
  go_wp2_with fail
  refine bodyPost_ret (v := .tuple #[.agg #[.int .i64 0, .int .i64 0, .int .i64 0, .int .i64 0, .int .i64 0, .int .i64 0, .int .i64 0, .int .i64 0, .int .i64 0], .bool false]) (by simp [results, Tryz.results8, go_sem]) rfl ⟨rfl, (Below.refl _ _).alloc (Nat.le_refl _) _⟩
theorem cnil_all (w : World) : Calls Tryz.prog 13 #[.pointer none] w fun e w' => e = .returned (.slice none 0 0) ∧ w = w' := by
  go_enter Tryz.func13, Tryz.ntmps13
  go_wp2_with fail
  go_ret
  exact ⟨rfl, rfl⟩
theorem cnil_bal (c k : Int) (w : World) : Calls Tryz.prog 14 #[.pointer none, .int .i64 c, .int .i64 k] w fun e w' => e = .returned (.int .i64 0) ∧ w = w' := by
  go_enter Tryz.func14, Tryz.ntmps14
  go_wp2_with fail
  go_ret
  exact ⟨rfl, rfl⟩
theorem cnil_turn (w : World) : Calls Tryz.prog 15 #[.pointer none] w fun e w' => e = .returned (.int .i64 0) ∧ w = w' := by
  go_enter Tryz.func15, Tryz.ntmps15
  go_wp2_with fail
  go_ret
  exact ⟨rfl, rfl⟩

end Go.Proofs.YthdmbbfppgenlaaGreat

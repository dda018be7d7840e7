/-
  The inbox: its functions at what is known of a step; the laws' small ones.
-/
import Derived.Test.YtakaalldbnklcaaInInbox2
namespace Go.Proofs.Ytakaalldbnklcaa.In
open Go.RowKit
set_option linter.unusedVariables false

theorem new_some (w : World) : Calls Try.prog 21 #[] w fun e w' =>
    ∃ X B, e = .returned (.pointer (some ⟨X, 0, none⟩)) ∧ w.heap.size ≤ B ∧ IsBox w' X B [] ∧ Below w.heap.size w w' ∧ B < w'.heap.size :=
  (new_any w).mono fun _ _ ⟨h1, h2, h3⟩ => ⟨_, _, h1, Nat.le_refl _, h2, h3, h2.2.lt⟩

/-- Ask at an answer that is known. -/
theorem ask_is {X B : Nat} {m : List ((Int × Int) × Ent)} {o s t : Int} {u : Bool} {v c : Int} (w : World) (h : IsBox w X B m) (hv : askF (entAt m (o, s)) t u = (v, c)) :
    Calls Try.prog 13 #[.pointer (some ⟨X, 0, none⟩), .int .i64 o, .int .i64 s, .int .i64 t, .bool u] w fun e w' =>
      e = .returned (.tuple #[.int .i64 v, .int .i64 c]) ∧ Below w.heap.size w w' := by
  have := ask_any X B m o s t u w h
  rw [hv] at this
  exact this
theorem keep_is {X B : Nat} {m : List ((Int × Int) × Ent)} {o s t : Int} {u : Bool} (c : Int) (w : World) (h : IsBox w X B m) {m' : List ((Int × Int) × Ent)} (hv : (askF (entAt m (o, s)) t u).1 = 0) (hm : mset m (o, s) (keepE (entAt m (o, s)) o s t u c) = m') :
    Calls Try.prog 16 #[.pointer (some ⟨X, 0, none⟩), .int .i64 o, .int .i64 s, .int .i64 t, .bool u, .int .i64 c] w fun e w' =>
      e = .returned (.int .i64 0) ∧ IsBox w' X B m' ∧ w.grownBy w' (some B) := by
  have := keep_any X B m o s t c u w h
  rw [show keepR m o s t u = 0 from if_pos hv, show keepM m o s t u c = m' from (if_pos hv).trans hm] at this
  exact this
theorem keep_no {X B : Nat} {m : List ((Int × Int) × Ent)} {o s t : Int} {u : Bool} (c : Int) (w : World) (h : IsBox w X B m) (hv : (askF (entAt m (o, s)) t u).1 ≠ 0) :
    Calls Try.prog 16 #[.pointer (some ⟨X, 0, none⟩), .int .i64 o, .int .i64 s, .int .i64 t, .bool u, .int .i64 c] w fun e w' =>
      e = .returned (.int .i64 130) ∧ IsBox w' X B m ∧ w.grownBy w' (some B) := by
  have := keep_any X B m o s t c u w h
  rw [show keepR m o s t u = 130 from if_neg hv, show keepM m o s t u c = m from if_neg hv] at this
  exact this
theorem done_is {X B : Nat} {m : List ((Int × Int) × Ent)} {o s : Int} {b : Bool} (w : World) (h : IsBox w X B m) (hv : doneF (entAt m (o, s)) = b) :
    Calls Try.prog 14 #[.pointer (some ⟨X, 0, none⟩), .int .i64 o, .int .i64 s] w fun e w' =>
      e = .returned (.bool b) ∧ Below w.heap.size w w' := by
  have := done_any X B m o s w h
  rw [hv] at this
  exact this

end Go.Proofs.Ytakaalldbnklcaa.In

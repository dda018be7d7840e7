/-
  A region that draws its order, walked once: every operation gives one value in every world of a class, and every call stays in the class.
-/
import Derived.Test.YtemhoaapapeilaaWords
import Derived.Deep.DeepCutAuto
import Derived.Deep.CutRange
namespace Go.Proofs.Ytemhoaapapeilaa
open Go.RowKit
set_option linter.unusedVariables false

/-- A world of a class. -/
structure In (C : World → Prop) where
  w : World
  h : C w

theorem wp_region_in {P : Program} {id : Nat} {Q : Exit → Act → World → Prop} {a : Act} {w : World} {l : List Oper} (C : World → Prop) (hm : P.follows .mixedOrders = true) (hB : Region.lexB .any l.toArray = true) (hC : C w.drew)
    (h : Nonempty (In C) → wpQuiet P l.toArray (fun w' => ∃ p : In C, w' = p.w) (fun a' => ∀ w', C w' → Q .normal a' w') l a) : (Code.region id l.toArray true).wp P Q a w := by
  refine wp_region_quiet (C := fun w' => ∃ p : In C, w' = p.w) hm hB ⟨⟨w.drew, hC⟩, rfl⟩ ?_
  have h1 := h ⟨⟨w.drew, hC⟩⟩
  have h2 : (fun a' => ∀ w', (∃ p : In C, w' = p.w) → Q .normal a' w') = (fun a' => ∀ w', C w' → Q .normal a' w') := by
    funext a'
    apply propext
    exact ⟨fun g w' hw => g w' ⟨⟨w', hw⟩, rfl⟩, fun g w' ⟨p, hp⟩ => by subst hp; exact g _ p.h⟩
  rw [h2]
  exact h1

theorem Calls.in_of {P : Program} {f : FuncId} {args : Array Value} {C : World → Prop} {p : In C} {v : Value} (h : Calls P f args p.w fun e w' => e = .returned v ∧ C w') :
    Calls P f args p.w fun e w'' => e = .returned v ∧ ∃ q : In C, w'' = q.w := h.mono fun _ _ ⟨he, hc⟩ => ⟨he, ⟨_, hc⟩, rfl⟩

/-- The cells cs stand at place o of block b. -/
def CellsAt (w : World) (b o : Nat) (cs : List Value) : Prop := b < w.heap.size ∧ ∀ j u, cs[j]? = some u → w.cell? ⟨b, o + j, none⟩ = some u
theorem CellsAt.next {w w' : World} {b o : Nat} {cs : List Value} (h : CellsAt w b o cs) (hb : Below w.heap.size w w') : CellsAt w' b o cs := ⟨Nat.lt_of_lt_of_le h.1 hb.size, fun j u hu => (hb.cell (p := ⟨b, o + j, none⟩) h.1).trans (h.2 j u hu)⟩

end Go.Proofs.Ytemhoaapapeilaa

/-
  Plain words: a number's measure, the order of numbers, the place of the first that fits. No program.
-/
import Derived.Test.YtemhoaapapeilaaSortedK
namespace Go.Proofs.Ytemhoaapapeilaa
open Go.RowKit
set_option linter.unusedVariables false

/-- A number's measure. -/
def nOf : Value → Nat | .int _ q => q.toNat | _ => 0
def ltI (a b : Int) : Bool := decide (a < b)
theorem linI : LinK ltI where
  irrefl a := by simp [ltI]
  trans a b c h g := by simp only [ltI, decide_eq_true_eq] at *; omega
  total a b h g := by simp only [ltI, decide_eq_false_iff_not] at *; omega

/-- The place of the first that fits, or -1. -/
def plc {α : Type} (p : α → Bool) (l : List α) : Int := if l.findIdx p < l.length then (l.findIdx p : Nat) else -1
theorem plc_some {α : Type} {p : α → Bool} {l : List α} {k : Nat} {y : α} (hk : l[k]? = some y) (hy : p y = true) (hb : ∀ j z, j < k → l[j]? = some z → p z = false) : plc p l = k := by
  have hl := (List.getElem?_eq_some_iff.1 hk).1
  have he := (List.getElem?_eq_some_iff.1 hk).2
  have : l.findIdx p = k := by
    rw [List.findIdx_eq hl]
    exact ⟨by rw [he]; exact hy, fun j hj => hb j _ hj (List.getElem?_eq_getElem (by omega))⟩
  unfold plc
  rw [this, if_pos hl]
theorem plc_none {α : Type} {p : α → Bool} {l : List α} (h : ∀ y ∈ l, p y = false) : plc p l = -1 := by
  unfold plc
  rw [if_neg]
  intro hlt
  have := List.findIdx_getElem (w := hlt)
  rw [h _ (List.getElem_mem hlt)] at this
  cases this
theorem plc_cases {α : Type} (p : α → Bool) (l : List α) : (∃ (k : Nat) (y : α), k < l.length ∧ l[k]? = some y ∧ p y = true ∧ plc p l = k) ∨ ((∀ y ∈ l, p y = false) ∧ plc p l = -1) := by
  by_cases h : l.findIdx p < l.length
  · left
    exact ⟨l.findIdx p, l[l.findIdx p], h, List.getElem?_eq_getElem h, List.findIdx_getElem, by unfold plc; rw [if_pos h]⟩
  · right
    have h1 : l.findIdx p = l.length := by have := List.findIdx_le_length (xs := l) (p := p); omega
    refine ⟨fun y hy => ?_, by unfold plc; rw [if_neg h]⟩
    have := List.findIdx_eq_length.1 h1 y hy
    simpa using this


end Go.Proofs.Ytemhoaapapeilaa

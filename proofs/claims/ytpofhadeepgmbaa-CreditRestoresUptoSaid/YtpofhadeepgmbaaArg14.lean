/-
  Parties and holds as an argument's cells.
-/
import Derived.Test.YtpofhadeepgmbaaRef14
namespace Go.Proofs.Ytpofhadeepgmbaa
open Go.RowKit
set_option linter.unusedVariables false
def okPa (x : Pa) : Prop := I64 x.i ∧ I64 x.l
theorem decPa (vs : List Value) (hl : vs.length = 2) (h : ∀ j, j < 2 → ∃ (u : Value) (k : SK), vs[j]? = some u ∧ ([SK.int .i64, .int .i64] : List SK)[j]? = some k ∧ k.ok u) : ∃ x : Pa, vs = enP x ∧ okPa x := by
  match vs, hl with
  | [a, b], _ =>
    obtain ⟨u0, k0, a0, b0, c0⟩ := h 0 (by omega)
    obtain ⟨u1, k1, a1, b1, c1⟩ := h 1 (by omega)
    simp at a0 b0 a1 b1
    subst a0 b0 a1 b1
    obtain ⟨n0, rfl, g0⟩ := c0
    obtain ⟨n1, rfl, g1⟩ := c1
    exact ⟨⟨n0, n1⟩, rfl, g0, g1⟩
def okHd (x : Hd) : Prop := I64 x.o ∧ I64 x.c ∧ I64 x.a
theorem decHd (vs : List Value) (hl : vs.length = 3) (h : ∀ j, j < 3 → ∃ (u : Value) (k : SK), vs[j]? = some u ∧ ([SK.int .i64, .int .i64, .int .i64] : List SK)[j]? = some k ∧ k.ok u) : ∃ x : Hd, vs = enH3 x ∧ okHd x := by
  match vs, hl with
  | [a, b, c], _ =>
    obtain ⟨u0, k0, a0, b0, c0⟩ := h 0 (by omega)
    obtain ⟨u1, k1, a1, b1, c1⟩ := h 1 (by omega)
    obtain ⟨u2, k2, a2, b2, c2⟩ := h 2 (by omega)
    simp at a0 b0 a1 b1 a2 b2
    subst a0 b0 a1 b1 a2 b2
    obtain ⟨n0, rfl, g0⟩ := c0
    obtain ⟨n1, rfl, g1⟩ := c1
    obtain ⟨n2, rfl, g2⟩ := c2
    exact ⟨⟨n0, n1, n2⟩, rfl, g0, g1, g2⟩
end Go.Proofs.Ytpofhadeepgmbaa

/-
  A ledger's sum as an argument's cells.
-/
import Derived.Test.YtjlfhfhckomalaaLedOrd
namespace Go.Proofs.Ytjlfhfhckomalaa
open Go.RowKit
set_option linter.unusedVariables false
def okSm (x : Sm) : Prop := I64 x.c ∧ I64 x.a ∧ I64 x.n
theorem decS (vs : List Value) (hl : vs.length = 3) (h : ∀ j, j < 3 → ∃ (u : Value) (k : SK), vs[j]? = some u ∧ ([SK.int .i64, .int .i64, .int .i64] : List SK)[j]? = some k ∧ k.ok u) : ∃ x : Sm, vs = enS x ∧ okSm x := by
  match vs, hl with
  | [a, b, c], _ =>
    obtain ⟨u0, k0, a0, b0, c0⟩ := h 0 (by omega)
    obtain ⟨u1, k1, a1, b1, c1⟩ := h 1 (by omega)
    obtain ⟨u2, k2, a2, b2, c2⟩ := h 2 (by omega)
    simp at a0 b0 a1 b1 a2 b2
    subst a0 b0 a1 b1 a2 b2
    obtain ⟨n0, rfl, g0⟩ := c0
    obtain ⟨n1, rfl, g1⟩ := c1
    obtain ⟨n2, rfl, g2⟩ := c2
    exact ⟨⟨n0, n1, n2⟩, rfl, g0, g1, g2⟩
end Go.Proofs.Ytjlfhfhckomalaa

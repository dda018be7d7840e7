/-
  An array of flat elements, by value, as an argument; three numbers.
-/
import Derived.Test.YthdmbbfppgenlaaFlatArr
namespace Go.Proofs.Ythdmbbfppgenlaa
open Go.ChangeShapes Go.WideShapes Go.ChangeAt Go.RowKit Go.Deep
set_option linter.unusedVariables false

theorem open_agg_arr {H : Type} {enc : TypeId × Value → H} {P : Program} {w : World} {base : Nat} {spare : Nat → Bool} {held : Bool} {α : Type} {en : α → List Value} {ok : α → Prop} {ks : List SK} {t e : TypeId} {n : Nat} {r : Reach} {b0 : Nat} {v : Value} {d : DataW H} {p : List MemPlace}
    (hs : P.underlying t = some (.array n e)) (hF : Flat P t ks) (hv : Value.okWide P w r b0 t v) (h : DataW.Trod enc P w base spare held t v d p)
    (hdec : ∀ vs : List Value, vs.length = ks.length → (∀ j, j < ks.length → ∃ (u : Value) (k : SK), vs[j]? = some u ∧ ks[j]? = some k ∧ k.ok u) → ∃ x, vs = en x ∧ ok x) :
    ∃ x : α, v = .agg (en x).toArray ∧ ok x := by
  obtain ⟨cs, rfl, hsz⟩ : ∃ cs : Array Value, v = .agg cs ∧ cs.size = P.cellsOf t := by
    simp only [Value.okWide, hs] at hv
    obtain ⟨cs, h1, h2, _⟩ := hv
    exact ⟨cs, h1, h2⟩
  obtain ⟨fuel, hf⟩ := h
  have hl : cs.toList.length = ks.length := by simpa using hsz.trans hF.1
  have := hF.2 enc w base spare held fuel cs.toList _ hl hf
  obtain ⟨x, hx, hok⟩ := hdec cs.toList hl (fun j hj => by
    obtain ⟨k, h1, h2⟩ := this j _ (List.getElem?_eq_getElem (by omega))
    exact ⟨_, k, List.getElem?_eq_getElem (by omega), h1, h2⟩)
  exact ⟨x, by rw [← hx], hok⟩
structure Tri where
  a : Int
  b : Int
  c : Int
def en3v (x : Tri) : List Value := [.int .i64 x.a, .int .i64 x.b, .int .i64 x.c]
def ok3v (x : Tri) : Prop := I64 x.a ∧ I64 x.b ∧ I64 x.c
theorem dec3v (vs : List Value) (hl : vs.length = 3) (h : ∀ j, j < 3 → ∃ (u : Value) (k : SK), vs[j]? = some u ∧ ([SK.int .i64, .int .i64, .int .i64] : List SK)[j]? = some k ∧ k.ok u) : ∃ x : Tri, vs = en3v x ∧ ok3v x := by
  match vs, hl with
  | [a, b, c], _ =>
    obtain ⟨u0, k0, a0, b0, c0⟩ := h 0 (by omega)
    obtain ⟨u1, k1, a1, b1, c1⟩ := h 1 (by omega)
    obtain ⟨u2, k2, a2, b2, c2⟩ := h 2 (by omega)
    simp at a0 b0 a1 b1 a2 b2
    subst a0 b0 a1 b1 a2 b2
    obtain ⟨n0, rfl, g0⟩ := c0
    obtain ⟨n1, rfl, g1⟩ := c1
    obtain ⟨n2, rfl, g2⟩ := c2
    exact ⟨⟨n0, n1, n2⟩, rfl, g0, g1, g2⟩

end Go.Proofs.Ythdmbbfppgenlaa

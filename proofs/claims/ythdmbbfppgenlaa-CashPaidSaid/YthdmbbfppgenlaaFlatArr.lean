/-
  Arrays of scalars as flat elements.
-/
import Derived.Test.YthdmbbfppgenlaaBase
namespace Go.Proofs.Ythdmbbfppgenlaa
open Go.ChangeShapes Go.WideShapes Go.ChangeAt Go.RowKit Go.Deep
set_option linter.unusedVariables false

theorem flat_array {P : Program} {e it : TypeId} {n : Nat} {k : SK} {ks : List SK} (he : P.underlying e = some (.array n it)) (hi : SK.of P it = some k) (h1 : P.cellsOf it = 1) (hC : P.cellsOf e = n) (hks : ks = List.replicate n k) : Flat P e ks := by
  subst hks
  refine ⟨by simpa using hC, fun enc w base spare held fuel cs x hl h j u hu => ?_⟩
  obtain ⟨xs, m, _, _, hlen, hxl, hf⟩ := DataW.trod_array he h
  have hj : j < n := by
    have := (List.getElem?_eq_some_iff.1 hu).1
    rw [hl] at this
    simpa using this
  have hjl : j < cs.length := (List.getElem?_eq_some_iff.1 hu).1
  have h2 := hf j hj
  rw [h1, Nat.mul_one] at h2
  have hone : (cs.drop j).take 1 = [u] := by
    rw [List.drop_eq_getElem_cons hjl]
    rw [List.getElem?_eq_getElem hjl] at hu
    injection hu with hu
    rw [hu]
    rfl
  rw [hone, List.getElem?_eq_getElem (by omega)] at h2
  exact ⟨k, by simp [hj], trod_scalar hi h2⟩

end Go.Proofs.Ythdmbbfppgenlaa

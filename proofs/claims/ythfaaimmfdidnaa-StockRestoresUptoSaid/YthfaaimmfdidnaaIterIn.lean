/-
  A range over a map, inside a fence: for the iterators of the library (maps.Keys, maps.Values).
-/
import Derived.Test.YthfaaimmfdidnaaRange
import Derived.Shelf.SlIterI.Sorted
namespace Go.Proofs.Ythfaaimmfdidnaa
open Go.RowKit Go.MapKept Go.ChangeMaps
set_option linter.unusedVariables false

section
variable {κ ν : Type} {P : Program} {w w' : World} {r B : Nat} {kE : κ → Value} {vE : ν → Value} {m left : List (κ × ν)} {F : Fence} {n : Nat}

theorem IsMap.of_walks (h : IsMap w B kE vE m) (hk : KeepsWalks w w') : IsMap w' B kE vE m := by
  obtain ⟨es, clock, h1, h2, h3, h4, h5⟩ := h
  exact ⟨es, clock, hk.same B _ h1 rfl, h2, h3, h4, h5⟩
theorem IsIter.of_walks (h : IsIter w r B kE vE m left) (hk : KeepsWalks w w') : IsIter w' r B kE vE m left := by
  obtain ⟨es, clock, since, c0, seen, h1, h2, h3, h4, h5, h6, h7, h8, h9⟩ := h
  exact ⟨es, clock, since, c0, seen, hk.same B _ h1 rfl, h2, h3, h4, h5, h6, h7, hk.same r _ h8 rfl, h9⟩
theorem IsIter.iter_walk (h : IsIter w r B kE vE m left) : ∃ o : Obj, w.heap[r]? = some o ∧ o.isWalk = true := by
  obtain ⟨es, clock, since, c0, seen, _, _, _, _, _, _, _, h8, _⟩ := h
  exact ⟨_, h8, rfl⟩

theorem wpListIn_range_m {ops : Array Oper} {rest : List Oper} {o : Oper} {a : Act} {Q : Exit → Act → World → Prop} (w : World)
    (hg : o.guard = none) (mo : Operand) (mt kt et : TypeId) (hop : o.op = Op.range mt mo) (hm : P.underlying mt = some (.map kt et)) (B : Nat) (m : List (κ × ν)) (hM : a.eval mo = .map (some B)) (h : IsMap w B kE vE m)
    (hK : ∀ w', IsIter w' w.heap.size B kE vE m m → w.grownBy w' none → w'.heap.size = w.heap.size + 1 → wpListIn F n P ops Q rest (a.put o.dst (.pointer (some ⟨w.heap.size, 0, none⟩))) w') : wpListIn F n P ops Q (o :: rest) a w := by
  refine wpListIn_plain hg fun K' hK' => ?_
  obtain ⟨w', hrun, r1, r2, r3⟩ := h.range hm
  unfold Oper.wpIn
  refine ⟨?_, ?_⟩
  · simp [Oper.about, hop]
  · rw [Oper.semAt_plain F _ _ (by rw [hop]; intro c hc'; cases hc')]
    simp [execOp, hop, hM, hrun, Result.andThen]
    exact hK' _ _ (hK w' r1 ⟨r2.os, r2.tape, r2.output, by omega, fun i hi _ => r2.block i hi⟩ r3)

theorem wpListIn_next_m {ops : Array Oper} {rest : List Oper} {o : Oper} {a : Act} {Q : Exit → Act → World → Prop} (w : World)
    (hg : o.guard = none) (it : Operand) (hop : o.op = Op.next it false) (r B : Nat) (m left : List (κ × ν)) (hit : a.eval it = .pointer (some ⟨r, 0, none⟩)) (h : IsIter w r B kE vE m left)
    (hDone : left = [] → wpListIn F n P ops Q rest (a.put o.dst (.tuple #[.bool false])) w)
    (hMore : ∀ (k : κ) (v : ν) (left' : List (κ × ν)) (w' : World), left.Perm ((k, v) :: left') → IsIter w' r B kE vE m left' → w.grownBy w' (some r) → w'.heap.size = w.heap.size →
      (Instr.entry (.pointer (some ⟨r, 0, none⟩))).run P w' = .ok (.tuple #[kE k, vE v]) w' → wpListIn F n P ops Q rest (a.put o.dst (.tuple #[.bool true, kE k, vE v])) w') : wpListIn F n P ops Q (o :: rest) a w := by
  refine wpListIn_plain hg fun K' hK' => ?_
  unfold Oper.wpIn
  refine ⟨by simp [Oper.about, hop], ?_⟩
  rw [Oper.semAt_plain F _ _ (by rw [hop]; intro c hc'; cases hc')]
  rcases h.step (P := P) o.type with ⟨h0, hrun⟩ | ⟨k, v, left', w', hp, hrun, hi, hgr, hs, hen⟩
  · simp [execOp, hop, hit, hrun, Result.andThen]
    exact hK' _ _ (hDone h0)
  · simp [execOp, hop, hit, hrun, Result.andThen]
    exact hK' _ _ (hMore k v left' w' hp hi hgr hs hen)
end

end Go.Proofs.Ythfaaimmfdidnaa

/-
  append of a whole slice, wherever it lies, to nil: at a step of a region that draws.
-/
import Derived.Test.YtemhoaapapeilaaAppend
import Derived.Deep.AppendLies
namespace Go.Proofs.Ytemhoaapapeilaa
open Go.RowKit Go.MapKept Go.ChangeMaps Go.WideShapes Go.ChangeShapes Go.ChangeAt Go.Deep
set_option linter.unusedVariables false

theorem run_append_any {P : Program} (w : World) (t ty : TypeId) (e : TypeId) (i : TypeInfo) (z : Value) (size bytes : Nat) (ht : P.underlying t = some (.slice e)) (hi : P.info? e = some i) (hz : i.zero = some z)
    (hsize : i.size = size) (hby : i.bytes = bytes) (hzs : z.cells.size = size) (hsz : 0 < size)
    (A : Option Addr) (m c : Nat) (xs : List Value) (hl : xs.length = m * size) (hR : Rd w A xs) (h1 : ∀ u ∈ xs, u.oneCell' = true) (h63 : m ≤ maxLen) (hb : m * bytes ≤ 140737488355328) :
    ∃ v' w', (Builtin.append_ #[t, t] ty #[.slice none 0 0, .slice A m c]).run P w = .ok v' w' ∧ w'.ownsRow w.heap.size e size v' m xs ∧ Below w.heap.size w w' := by
  cases A with
  | none =>
    have hm : m = 0 := by
      rcases hR with h0 | ⟨b, off, hA, hx1, hx2⟩
      · rw [h0] at hl
        rcases Nat.eq_zero_or_pos m with h | h
        · exact h
        · have := Nat.mul_pos h hsz
          rw [← hl] at this
          simp at this
      · exact absurd hA (by simp)
    subst hm
    have : xs = [] := List.eq_nil_of_length_eq_zero (by simpa using hl)
    subst this
    exact ⟨_, w, append_nil_run (P := P) (w := w) ht hi ty c, World.ownsRow_nil _ _ _ _, Below.refl _ _⟩
  | some ad =>
    obtain ⟨v', w', hr, h2, h3, _, _⟩ := run_append_own_at (P := P) w w.heap.size t ty e i z size bytes ht hi hz hsize hby hzs hsz (.slice none 0 0) 0 [] (World.ownsRow_nil _ _ _ _) ad m c xs hl (by
      intro j u hu
      rcases hR with h0 | ⟨b, off, hA, hlt, hc⟩
      · rw [h0] at hu; simp at hu
      · injection hA with hA
        subst hA
        rw [add_plain]
        exact hc j u hu) h1 (by omega) (by rw [Nat.zero_add]; exact hb) (Nat.le_refl _)
    exact ⟨v', w', hr, by simpa using h2, (Below.refl _ _).grown h3 (Nat.le_refl _) (fun k hk => by simp [Value.ownBlock] at hk)⟩

theorem step_append_any {P : Program} (w : World) {ops : Array Oper} {o : Oper} {a : Act} {K : Act → World → Prop} {Q : Exit → Act → World → Prop} {E : Prop} (hgd : o.guard = none) (s x : Operand) (t : TypeId)
    (ho : o.op = .call { callee := .builtin .append, args := #[s, x], argTypes := #[t, t] })
    (e : TypeId) (i : TypeInfo) (z : Value) (size bytes : Nat) (ht : P.underlying t = some (.slice e)) (hi : P.info? e = some i) (hz : i.zero = some z)
    (hsize : i.size = size) (hby : i.bytes = bytes) (hzs : z.cells.size = size) (hsz : 0 < size) (hs : a.eval s = .slice none 0 0)
    (A : Option Addr) (m c : Nat) (xs : List Value) (hx : a.eval x = .slice A m c) (hl : xs.length = m * size) (hR : Rd w A xs) (h1 : ∀ u ∈ xs, u.oneCell' = true) (h63 : m ≤ maxLen) (hb : m * bytes ≤ 140737488355328)
    (h : ∀ A' cap' w', w'.ownsRow w.heap.size e size (.slice A' m cap') m xs → Below w.heap.size w w' → K (a.put o.dst (.slice A' m cap')) w') :
    if Region.wanted o (yielded ops a.tmps) = true then Oper.wp P o a w K Q else E := by
  have hw : Region.wanted o (yielded ops a.tmps) = true := by simp [Region.wanted, hgd]
  rw [if_pos hw]
  obtain ⟨v', w', hr, h2, h3⟩ := run_append_any (P := P) w t o.type e i z size bytes ht hi hz hsize hby hzs hsz A m c xs hl hR h1 h63 hb
  obtain ⟨A', cap', rfl, _⟩ := own_slice h2
  unfold Oper.wp execOp
  simp only [ho, resolve, invoke, builtin, Sem.run_bind, Sem.run_pure, Result.andThen_ok, List.map_toArray, List.map_cons, List.map_nil, hs, hx, hr]
  exact h A' cap' w' h2 h3
theorem exec_append_any {P : Program} {w : World} {o : Oper} {a : Act} {X : Value → World → Prop} (s x : Operand) (t : TypeId)
    (ho : o.op = .call { callee := .builtin .append, args := #[s, x], argTypes := #[t, t] })
    (e : TypeId) (i : TypeInfo) (z : Value) (size bytes : Nat) (ht : P.underlying t = some (.slice e)) (hi : P.info? e = some i) (hz : i.zero = some z)
    (hsize : i.size = size) (hby : i.bytes = bytes) (hzs : z.cells.size = size) (hsz : 0 < size) (hs : a.eval s = .slice none 0 0)
    (A : Option Addr) (m c : Nat) (xs : List Value) (hx : a.eval x = .slice A m c) (hl : xs.length = m * size) (hR : Rd w A xs) (h1 : ∀ u ∈ xs, u.oneCell' = true) (h63 : m ≤ maxLen) (hb : m * bytes ≤ 140737488355328)
    (h : ∀ A' cap' w', w'.ownsRow w.heap.size e size (.slice A' m cap') m xs → Below w.heap.size w w' → X (.slice A' m cap') w') :
    ∃ u w', (execOp a.eval o).run P w = .ok (.value u) w' ∧ X u w' := by
  obtain ⟨v', w', hr, h2, h3⟩ := run_append_any (P := P) w t o.type e i z size bytes ht hi hz hsize hby hzs hsz A m c xs hl hR h1 h63 hb
  obtain ⟨A', cap', rfl, _⟩ := own_slice h2
  refine ⟨.slice A' m cap', w', ?_, h A' cap' w' h2 h3⟩
  unfold execOp
  simp only [ho, resolve, invoke, builtin, Sem.run_bind, Sem.run_pure, Result.andThen_ok, List.map_toArray, List.map_cons, List.map_nil, hs, hx, hr]

end Go.Proofs.Ytemhoaapapeilaa

/-
  append of a whole slice, wherever it lies, to nil: a row of the call's own.
-/
import Derived.Test.YtemhoaapapeilaaOwn
namespace Go.Proofs.Ytemhoaapapeilaa
open Go.RowKit Go.MapKept Go.ChangeMaps Go.WideShapes Go.ChangeShapes Go.ChangeAt Go.Deep
set_option linter.unusedVariables false

theorem append_nil_run {P : Program} {w : World} {t e : TypeId} {i : TypeInfo} (ht : P.underlying t = some (.slice e)) (hi : P.info? e = some i) (ty : TypeId) (c : Nat) :
    (Builtin.append_ #[t, t] ty #[.slice none 0 0, .slice none 0 c]).run P w = .ok (.slice none 0 0) w := by
  simp [Builtin.append_, run_underlying ht, sizeOf, typeInfo, hi, Result.andThen, Sem.run_bind, go_sem]

/-- 'append([]T(nil), x...)'. -/
theorem wpList_append_any {P : Program} {ops : Array Oper} {rest : List Oper} {o : Oper} {a : Act} {Q : Exit → Act → World → Prop} (w : World) (hgd : o.guard = none) (s x : Operand) (t : TypeId)
    (ho : o.op = .call { callee := .builtin .append, args := #[s, x], argTypes := #[t, t] })
    (e : TypeId) (i : TypeInfo) (z : Value) (size bytes : Nat) (ht : P.underlying t = some (.slice e)) (hi : P.info? e = some i) (hz : i.zero = some z)
    (hsize : i.size = size) (hby : i.bytes = bytes) (hzs : z.cells.size = size) (hsz : 0 < size)
    (hs : a.eval s = .slice none 0 0) (A : Option Addr) (m c : Nat) (xs : List Value) (hx : a.eval x = .slice A m c) (hl : xs.length = m * size) (hR : Rd w A xs) (h1 : ∀ u ∈ xs, u.oneCell' = true)
    (h63 : m ≤ maxLen) (hb : m * bytes ≤ 140737488355328)
    (h : ∀ v' w', w'.ownsRow w.heap.size e size v' m xs → Below w.heap.size w w' → wpList P ops Q rest (a.put o.dst v') w') : wpList P ops Q (o :: rest) a w := by
  cases A with
  | none =>
    have hm : m = 0 := by
      rcases hR with h0 | ⟨b, off, hA, hx1, hx2⟩
      · rw [h0] at hl
        rcases Nat.eq_zero_or_pos m with h | h
        · exact h
        · have := Nat.mul_pos h hsz
          rw [← hl] at this
          simp at this
      · exact absurd hA (by simp)
    subst hm
    refine wpList_plain hgd fun K' hK' => ?_
    have hrun := append_nil_run (P := P) (w := w) ht hi o.type c
    unfold Oper.wp
    simp [execOp, ho, resolve, invoke, builtin, hs, hx, hrun, Result.andThen]
    refine hK' _ _ (h _ _ ?_ (Below.refl _ _))
    have : xs = [] := List.eq_nil_of_length_eq_zero (by simpa using hl)
    subst this
    exact World.ownsRow_nil _ _ _ _
  | some ad =>
    refine wpList_append_own _ hgd s x t ho w.heap.size e i z size bytes ht hi hz hsize hby hzs hsz _ 0 [] hs (World.ownsRow_nil _ _ _ _) ad m c xs hx hl ?_ h1 (by omega) (by rw [Nat.zero_add]; exact hb) (Nat.le_refl _) (fun v' w' h2 h3 _ => h v' w' (by simpa using h2) ((Below.refl _ _).grown h3 (Nat.le_refl _) (fun k hk => by simp [Value.ownBlock] at hk)))
    intro j u hu
    rcases hR with h0 | ⟨b, off, hA, hlt, hc⟩
    · rw [h0] at hu; simp at hu
    · injection hA with hA
      subst hA
      rw [add_plain]
      exact hc j u hu

end Go.Proofs.Ytemhoaapapeilaa

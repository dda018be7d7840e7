/-
  Maps that the call itself made, continued: len.
-/
import Derived.Test.YtemhoaapapeilaaMap3
namespace Go.Proofs.Ytemhoaapapeilaa
open Go.RowKit
set_option linter.unusedVariables false

section
variable {κ ν : Type} {P : Program} {w : World} {B : Nat} {kE : κ → Value} {vE : ν → Value} {m : List (κ × ν)} {kt : TypeId}
theorem IsMap.len {mt et : TypeId} (h : IsMap w B kE vE m) (hm : P.underlying mt = some (.map kt et)) (ty : TypeId) :
    (Builtin.len_ #[mt] ty #[.map (some B)]).run P w = .ok (.int .i64 m.length) w := by
  obtain ⟨es, c, hb, hr, hn, hbn, hd⟩ := h
  have hl : es.length = m.length := by have := congrArg List.length hr; simpa using this
  unfold Builtin.len_
  simp [run_underlying hm, Sem.run, hb, getObj, hl, goInt]

theorem wpList_maplen {ops : Array Oper} {rest : List Oper} {o : Oper} {a : Act} {Q : Exit → Act → World → Prop} (w : World)
    (hgd : o.guard = none) (mo : Operand) (mt et : TypeId) (hop : o.op = Op.call { callee := Callee.builtin Builtin.len, args := #[mo], argTypes := #[mt] }) (hm : P.underlying mt = some (.map kt et))
    (B : Nat) (m : List (κ × ν)) (hM : a.eval mo = .map (some B)) (h : IsMap w B kE vE m)
    (hK : wpList P ops Q rest (a.put o.dst (.int .i64 m.length)) w) : wpList P ops Q (o :: rest) a w := by
  refine wpList_plain hgd fun K' hK' => ?_
  unfold Oper.wp
  simp [execOp, hop, resolve, invoke, builtin, hM, h.len hm o.type, Result.andThen]
  exact hK' _ _ hK
end

end Go.Proofs.Ytemhoaapapeilaa

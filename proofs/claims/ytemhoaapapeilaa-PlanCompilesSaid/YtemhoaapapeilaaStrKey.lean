/-
  Maps whose keys are strings; a map literal's insert.
-/
import Derived.Test.YtemhoaapapeilaaMap2
import Derived.Laws.StructEq
namespace Go.Proofs.Ytemhoaapapeilaa
open Go.RowKit
set_option linter.unusedVariables false

section
variable {P : Program} {κ ν : Type} [DecidableEq κ] {kE : κ → Value} {vE : ν → Value} {w : World}
theorem bytes_beq (a b : ByteArray) : (a == b) = decide (a = b) := by
  rw [beq_toListBytes, ByteArray.toList_eq, ByteArray.toList_eq]
  obtain ⟨⟨x⟩⟩ := a
  obtain ⟨⟨y⟩⟩ := b
  by_cases e : x = y
  · subst e; simp
  · have : ¬ (ByteArray.mk ⟨x⟩ = ByteArray.mk ⟨y⟩) := fun h => e (by injection h with h; injection h)
    simp [e, this]
def kS (s : ByteArray) : Value := .string s
theorem strKey {kt : TypeId} (hu : P.underlying kt = some .string) : KeyLaw P kt kS := by
  refine keyLaw_of ?_ ?_ ?_ hu ?_
  · intro e a w
    show (Instr.checkKey e (9999 + 1) kt (.string a)).run P w = _
    unfold Instr.checkKey
    simp [run_underlying hu]
  · intro a b w
    show (Op.equalIn (9999 + 1) kt (.string a) (.string b)).run P w = _
    rw [run_equalIn_string (P := P) (w := w) 9999 kt a b hu, ← beq_toListBytes, bytes_beq]
  · intro a w
    show (Instr.keyThatStays (.string a) (.string a)).run P w = _
    unfold Instr.keyThatStays
    simp [Instr.sameBits, bytes_beq, kS]
  · intro a b
    right
    simp [Instr.sameNow, kS, bytes_beq]
theorem wpList_insert {kt : TypeId} {ops : Array Oper} {rest : List Oper} {o : Oper} {a : Act} {Q : Exit → Act → World → Prop} (w : World)
    (hgd : o.guard = none) (mo xo vo : Operand) (mt et : TypeId) (hop : o.op = Op.insert mt mo xo vo) (K : KeyLaw P kt kE) (hm : P.underlying mt = some (.map kt et))
    (B : Nat) (m : List (κ × ν)) (hM : a.eval mo = .map (some B)) (h : IsMap w B kE vE m) (k : κ) (b : ν) (hx : a.eval xo = kE k) (hv : a.eval vo = vE b)
    (hK : ∀ w', IsMap w' B kE vE (mset m k b) → w.grownBy w' (some B) → w'.heap.size = w.heap.size → wpList P ops Q rest (a.put o.dst undef) w') : wpList P ops Q (o :: rest) a w := by
  refine wpList_plain hgd fun K' hK' => ?_
  obtain ⟨w', hrun, r1, r2, r3⟩ := h.store K hm k b
  unfold Oper.wp
  simp [execOp, hop, hM, hx, hv, hrun, Result.andThen]
  exact hK' _ _ (hK w' r1 r2 r3)
end

end Go.Proofs.Ytemhoaapapeilaa

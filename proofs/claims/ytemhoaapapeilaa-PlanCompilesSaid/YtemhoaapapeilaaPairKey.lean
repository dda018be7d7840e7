/-
  A map's key that is a struct of two numbers: the model's laws of it.
-/
import Derived.Test.YtemhoaapapeilaaMap2
import Derived.Laws.StructEq
namespace Go.Proofs.Ytemhoaapapeilaa
open Go.RowKit

/-- A pair of numbers as a struct's value. -/
def kP (p : Int × Int) : Value := .agg #[.int .i64 p.1, .int .i64 p.2]

section
variable {P : Program} {kt it : TypeId} {n1 n2 : String}

theorem two_fields (hf : (P.fieldsOf kt).toList.map (fun f => (f.name, f.type, f.offset)) = [(n1, it, 0), (n2, it, 1)]) (h1 : n1 ≠ "_") (h2 : n2 ≠ "_") :
    ∃ f g : Field, (P.fieldsOf kt).toList = [f, g] ∧ (f.name ≠ "_" ∧ f.type = it ∧ f.offset = 0) ∧ (g.name ≠ "_" ∧ g.type = it ∧ g.offset = 1) := by
  generalize (P.fieldsOf kt).toList = l at hf
  rcases l with _ | ⟨f, _ | ⟨g, _ | ⟨x, l⟩⟩⟩
  · simp at hf
  · simp at hf
  · simp only [List.map_cons, List.map_nil, List.cons.injEq, Prod.mk.injEq, and_true] at hf
    obtain ⟨⟨a1, a2, a3⟩, b1, b2, b3⟩ := hf
    exact ⟨f, g, rfl, ⟨by rw [a1]; exact h1, a2, a3⟩, by rw [b1]; exact h2, b2, b3⟩
  · simp at hf

theorem pairKey (hu : P.underlying kt = some (.struct (P.fieldsOf kt))) (hh : P.stoodInHeld kt = false) (hf : (P.fieldsOf kt).toList.map (fun f => (f.name, f.type, f.offset)) = [(n1, it, 0), (n2, it, 1)]) (h1 : n1 ≠ "_") (h2 : n2 ≠ "_")
    (hi : P.underlying it = some (.int .i64)) (ha : ∀ w, (isAgg it).run P w = .ok false w) : KeyLaw P kt kP := by
  obtain ⟨f, g, hl, ⟨f1, f2, f3⟩, g1, g2, g3⟩ := two_fields hf h1 h2
  have p0 : ∀ (x y : Int) (w : World), (part it #[.int .i64 x, .int .i64 y] 0).run P w = .ok (.int .i64 x) w := fun x y w => by unfold part; simp [ha]
  have p1 : ∀ (x y : Int) (w : World), (part it #[.int .i64 x, .int .i64 y] 1).run P w = .ok (.int .i64 y) w := fun x y w => by unfold part; simp [ha]
  refine keyLaw_of ?_ ?_ ?_ hu (fun _ _ => .inl rfl)
  · rintro e ⟨a1, a2⟩ w
    show (Instr.checkKey e (9999 + 1) kt (.agg _)).run P w = _
    unfold Instr.checkKey
    have e1 : ∀ x : Int, (Instr.checkKey e 9999 it (.int .i64 x)).run P w = .ok () w := fun x => by
      show (Instr.checkKey e (9998 + 1) it (.int .i64 x)).run P w = .ok () w
      unfold Instr.checkKey
      simp [run_underlying hi]
    simp only [Sem.run_bind, run_underlying hu, Result.andThen_ok]
    rw [← Array.forIn_toList, hl]
    simp [f1, g1, f2, g2, f3, g3, p0, p1, e1]
  · rintro ⟨a1, a2⟩ ⟨b1, b2⟩ w
    show (Op.equalIn (9999 + 1) kt (.agg _) (.agg _)).run P w = _
    rw [run_equalIn_struct w 9999 _ _ _ hu hh, hl]
    have e : ∀ x y : Int, (Op.equalIn 9999 it (.int .i64 x) (.int .i64 y)).run P w = .ok (x == y) w := fun x y => run_equalIn_int w 9998 _ _ _ _ _ hi
    simp only [Op.eqFields, f1, g1, f2, g2, f3, g3, ne_eq, not_false_eq_true, if_true, Sem.run_bind, p0, Result.andThen_ok, e]
    by_cases h1 : a1 = b1
    · by_cases h2 : a2 = b2
      · simp [h1, h2, p1, e]
      · simp [h1, h2, p1, e]
    · simp [h1]
  · intro a w
    show (Instr.keyThatStays (.agg _) (.agg _)).run P w = _
    unfold Instr.keyThatStays
    simp [Instr.sameBits, kP]
end

theorem isAgg_int (w : World) : (isAgg 3).run Try.prog w = .ok false w := by kernel_rfl

end Go.Proofs.Ytemhoaapapeilaa

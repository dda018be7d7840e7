/-
  A map's key that is a struct of two numbers of unlike types: the model's laws of it.
-/
import Derived.Test.YthdmbbfppgenlaaGreatPairKey
namespace Go.Proofs.YthdmbbfppgenlaaGreat
open Go.RowKit

section
variable {P : Program} {kt i1 i2 : TypeId} {n1 n2 : String}

theorem two_fields2 (hf : (P.fieldsOf kt).toList.map (fun f => (f.name, f.type, f.offset)) = [(n1, i1, 0), (n2, i2, 1)]) (h1 : n1 ≠ "_") (h2 : n2 ≠ "_") :
    ∃ f g : Field, (P.fieldsOf kt).toList = [f, g] ∧ (f.name ≠ "_" ∧ f.type = i1 ∧ f.offset = 0) ∧ (g.name ≠ "_" ∧ g.type = i2 ∧ g.offset = 1) := by
  generalize (P.fieldsOf kt).toList = l at hf
  rcases l with _ | ⟨f, _ | ⟨g, _ | ⟨x, l⟩⟩⟩
  · simp at hf
  · simp at hf
  · simp only [List.map_cons, List.map_nil, List.cons.injEq, Prod.mk.injEq, and_true] at hf
    obtain ⟨⟨a1, a2, a3⟩, b1, b2, b3⟩ := hf
    exact ⟨f, g, rfl, ⟨by rw [a1]; exact h1, a2, a3⟩, by rw [b1]; exact h2, b2, b3⟩
  · simp at hf

theorem pairKey2 (hu : P.underlying kt = some (.struct (P.fieldsOf kt))) (hh : P.stoodInHeld kt = false) (hf : (P.fieldsOf kt).toList.map (fun f => (f.name, f.type, f.offset)) = [(n1, i1, 0), (n2, i2, 1)]) (h1 : n1 ≠ "_") (h2 : n2 ≠ "_")
    (hi1 : P.underlying i1 = some (.int .i64)) (ha1 : ∀ w, (isAgg i1).run P w = .ok false w) (hi2 : P.underlying i2 = some (.int .i64)) (ha2 : ∀ w, (isAgg i2).run P w = .ok false w) : KeyLaw P kt kP := by
  obtain ⟨f, g, hl, ⟨f1, f2, f3⟩, g1, g2, g3⟩ := two_fields2 hf h1 h2
  have p0 : ∀ (x y : Int) (w : World), (part i1 #[.int .i64 x, .int .i64 y] 0).run P w = .ok (.int .i64 x) w := fun x y w => by unfold part; simp [ha1]
  have p1 : ∀ (x y : Int) (w : World), (part i2 #[.int .i64 x, .int .i64 y] 1).run P w = .ok (.int .i64 y) w := fun x y w => by unfold part; simp [ha2]
  refine keyLaw_of ?_ ?_ ?_ hu (fun _ _ => .inl rfl)
  · rintro e ⟨a1, a2⟩ w
    show (Instr.checkKey e (9999 + 1) kt (.agg _)).run P w = _
    unfold Instr.checkKey
    have e1 : ∀ x : Int, (Instr.checkKey e 9999 i1 (.int .i64 x)).run P w = .ok () w := fun x => by
      show (Instr.checkKey e (9998 + 1) i1 (.int .i64 x)).run P w = .ok () w
      unfold Instr.checkKey
      simp [run_underlying hi1]
    have e2 : ∀ x : Int, (Instr.checkKey e 9999 i2 (.int .i64 x)).run P w = .ok () w := fun x => by
      show (Instr.checkKey e (9998 + 1) i2 (.int .i64 x)).run P w = .ok () w
      unfold Instr.checkKey
      simp [run_underlying hi2]
    simp only [Sem.run_bind, run_underlying hu, Result.andThen_ok]
    rw [← Array.forIn_toList, hl]
    simp [f1, g1, f2, g2, f3, g3, p0, p1, e1, e2]
  · rintro ⟨a1, a2⟩ ⟨b1, b2⟩ w
    show (Op.equalIn (9999 + 1) kt (.agg _) (.agg _)).run P w = _
    rw [run_equalIn_struct w 9999 _ _ _ hu hh, hl]
    have e1 : ∀ x y : Int, (Op.equalIn 9999 i1 (.int .i64 x) (.int .i64 y)).run P w = .ok (x == y) w := fun x y => run_equalIn_int w 9998 _ _ _ _ _ hi1
    have e2 : ∀ x y : Int, (Op.equalIn 9999 i2 (.int .i64 x) (.int .i64 y)).run P w = .ok (x == y) w := fun x y => run_equalIn_int w 9998 _ _ _ _ _ hi2
    simp only [Op.eqFields, f1, g1, f2, g2, f3, g3, ne_eq, not_false_eq_true, if_true, Sem.run_bind, p0, Result.andThen_ok, e1]
    by_cases h1 : a1 = b1
    · by_cases h2 : a2 = b2
      · simp [h1, h2, p1, e2]
      · simp [h1, h2, p1, e2]
    · simp [h1]
  · intro a w
    show (Instr.keyThatStays (.agg _) (.agg _)).run P w = _
    unfold Instr.keyThatStays
    simp [Instr.sameBits, kP]
end

end Go.Proofs.YthdmbbfppgenlaaGreat

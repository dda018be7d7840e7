/-
  Structs of scalars compared: a struct is equal to itself.
-/
import Derived.Test.YthdmbbfppgenlaaGreatIn
import Derived.Laws.StructEq
namespace Go.Proofs.YthdmbbfppgenlaaGreat
open Go.RowKit
set_option linter.unusedVariables false

theorem eqFields_same {P : Program} {d : Nat} {xs : Array Value} : ∀ (fs : List Field), (∀ f ∈ fs, ∃ v, (∀ w, (part f.type xs f.offset).run P w = .ok v w) ∧ ∀ w, (Op.equalIn d f.type v v).run P w = .ok true w) → ∀ w, (Op.eqFields d xs xs fs).run P w = .ok true w
  | [], _, w => by simp [Op.eqFields]
  | f :: fs, h, w => by
    obtain ⟨v, h1, h2⟩ := h f (by simp)
    simp only [Op.eqFields]
    split
    · simp [h1, h2]
      exact eqFields_same fs (fun g hg => h g (by simp [hg])) w
    · exact eqFields_same fs (fun g hg => h g (by simp [hg])) w

/-- A scalar's field, read out of a struct, is equal to itself. -/
def SameAt (P : Program) (xs : Array Value) (q : TypeId × Nat) : Prop := ∃ v, (∀ w, (part q.1 xs q.2).run P w = .ok v w) ∧ ∀ w, (Op.equalIn 9999 q.1 v v).run P w = .ok true w
theorem sameAt_int {P : Program} {xs : Array Value} {t : TypeId} {o : Nat} {k k' : IntKind} {n : Int} (hu : P.underlying t = some (.int k')) (ha : ∀ w, (isAgg t).run P w = .ok false w) (hx : xs[o]? = some (.int k n)) : SameAt P xs (t, o) :=
  ⟨.int k n, fun w => by unfold part; simp [ha, hx], fun w => by
    have := run_equalIn_int (P := P) w 9998 t k k' n n hu
    simpa using this⟩
theorem sameAt_bool {P : Program} {xs : Array Value} {t : TypeId} {o : Nat} {b : Bool} (hu : P.underlying t = some .bool) (ha : ∀ w, (isAgg t).run P w = .ok false w) (hx : xs[o]? = some (.bool b)) : SameAt P xs (t, o) :=
  ⟨.bool b, fun w => by unfold part; simp [ha, hx], fun w => by
    have := run_equalIn_bool' (P := P) w 9998 t b b hu
    simpa using this⟩
theorem sameAt_str {P : Program} {xs : Array Value} {t : TypeId} {o : Nat} {s : ByteArray} (hu : P.underlying t = some .string) (ha : ∀ w, (isAgg t).run P w = .ok false w) (hx : xs[o]? = some (.string s)) : SameAt P xs (t, o) :=
  ⟨.string s, fun w => by unfold part; simp [ha, hx], fun w => by
    have := run_equalIn_string (P := P) w 9998 t s s hu
    simpa using this⟩

theorem agg_same {P : Program} {t : TypeId} {xs : Array Value} {L : List (TypeId × Nat)} (ht : P.underlying t = some (.struct (P.fieldsOf t))) (hp : P.stoodInHeld t = false) (hL : (P.fieldsOf t).toList.map (fun f => (f.type, f.offset)) = L) (h : ∀ q ∈ L, SameAt P xs q) (w : World) :
    (Op.equalIn 10000 t (.agg xs) (.agg xs)).run P w = .ok true w := by
  have := run_equalIn_struct (P := P) w 9999 t xs xs ht hp
  rw [this]
  refine eqFields_same _ (fun f hf => ?_) w
  exact h (f.type, f.offset) (by rw [← hL]; exact List.mem_map.2 ⟨f, hf, rfl⟩)

end Go.Proofs.YthdmbbfppgenlaaGreat

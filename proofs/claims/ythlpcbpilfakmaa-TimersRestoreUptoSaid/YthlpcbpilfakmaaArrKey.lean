/-
  A map's key that is an array of two numbers: the model's laws of it.
-/
import Derived.Test.YthlpcbpilfakmaaPairKey
import Derived.ChangeKeysEq
namespace Go.Proofs.Ythlpcbpilfakmaa
open Go.RowKit
set_option linter.unusedVariables false

section
variable {P : Program} {kt it : TypeId}
theorem arrKey (hu : P.underlying kt = some (.array 2 it)) (hi : P.underlying it = some (.int .i64)) (ha : ∀ w, (isAgg it).run P w = .ok false w) (hz : ∀ w, (sizeOf it).run P w = .ok 1 w) {i : TypeInfo} (hI : P.info? it = some i) (hc : P.cellsOf it = 1) : KeyLaw P kt kP := by
  have p0 : ∀ (x y : Int) (w : World), (part it #[.int .i64 x, .int .i64 y] 0).run P w = .ok (.int .i64 x) w := fun x y w => by unfold part; simp [ha]
  have p1 : ∀ (x y : Int) (w : World), (part it #[.int .i64 x, .int .i64 y] 1).run P w = .ok (.int .i64 y) w := fun x y w => by unfold part; simp [ha]
  refine keyLaw_of ?_ ?_ ?_ hu (fun _ _ => .inl rfl)
  · rintro e ⟨a1, a2⟩ w
    show (Instr.checkKey e (9999 + 1) kt (.agg _)).run P w = _
    unfold Instr.checkKey
    have e1 : ∀ (x : Int) w, (Instr.checkKey e 9999 it (.int .i64 x)).run P w = .ok () w := fun x w => by
      show (Instr.checkKey e (9998 + 1) it (.int .i64 x)).run P w = .ok () w
      unfold Instr.checkKey
      simp [run_underlying hi]
    simp only [Sem.run_bind, run_underlying hu, Result.andThen_ok]
    simp only [Std.Legacy.Range.forIn_eq_forIn_range', Std.Legacy.Range.size, Nat.sub_zero, Nat.add_one_sub_one, Nat.div_one]
    simp [List.range', hz, p0, p1, e1]
  · rintro ⟨a1, a2⟩ ⟨b1, b2⟩ w
    show (Op.equalIn (9999 + 1) kt (.agg _) (.agg _)).run P w = _
    have e : ∀ (x y : Int) w, (Op.equalIn 9999 it (.int .i64 x) (.int .i64 y)).run P w = .ok (x == y) w := fun x y w => run_equalIn_int w 9998 _ _ _ _ _ hi
    rw [run_equalIn_array (P := P) w 9999 _ _ hu hI, hc]
    have hr : List.range 2 = [0, 1] := rfl
    rw [hr]
    by_cases h1 : a1 = b1
    · by_cases h2 : a2 = b2
      · simp [Op.eqItems, h1, h2, p0, p1, e]
      · simp [Op.eqItems, h1, h2, p0, p1, e]
    · simp [Op.eqItems, h1, p0, p1, e]
  · intro a w
    show (Instr.keyThatStays (.agg _) (.agg _)).run P w = _
    unfold Instr.keyThatStays
    simp [Instr.sameBits, kP]
end

end Go.Proofs.Ythlpcbpilfakmaa

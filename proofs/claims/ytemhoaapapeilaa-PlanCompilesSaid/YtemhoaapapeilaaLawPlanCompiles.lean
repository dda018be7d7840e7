/-
  The statement PlanCompiles: for every input the law returns true. No condition.
-/
import Derived.Test.YtemhoaapapeilaaPv12
import Derived.Test.YtemhoaapapeilaaFlArg12
namespace Go.Proofs.Ytemhoaapapeilaa.lawPlanCompiles
open Go.ChangeShapes Go.WideShapes Go.ChangeAt Go.RowKit 
set_option linter.unusedVariables false

theorem own : ownKnob Try.prog.godebug = none := by kernel_rfl
theorem laidOut : laidOutB Try.prog = true := by kernel_rfl

set_option maxRecDepth 100000 in
theorem contract (H : Type) (enc : TypeId × Value → H) (W : World) (base : Nat) (args : Array Value) (ds gs : List (DataW H)) (before : List MemPlace)
    (hval : ∀ (j : Nat) t v, Try.f7.params[j]? = some t → args[j]? = some v → Value.okWide Try.prog W .any base t v)
    (hW : DataW.Whole enc Try.prog Try.f7.params.toList Rows.planCompilesSpec.vars false W args.toList ds gs before)
    (hsz : (DataW.weightsEach Try.prog (Try.f7.params.toList ++ Rows.planCompilesSpec.plain.varTypes Try.prog) (ds ++ gs)).all (· ≤ reachBytes) = true) :
    Calls Try.prog 7 args W fun e W' => ∃ v, e = .returned v ∧ Rows.planCompilesSpec.post enc Try.prog Try.f7 false true false false W args v W' := by
  have fin : ∀ e W', Law W e W' → ∃ v, e = .returned v ∧ Rows.planCompilesSpec.post enc Try.prog Try.f7 false true false false W args v W' :=
    fun e W' h => law_post laidOut rfl (fun ds hds => by
      rw [Try.params7] at hds
      match ds, hds with
      | [d0], _ => exact ⟨rfl, rfl, rfl⟩) (by rw [Try.params7]; intro t ht; simp only [List.mem_cons, List.not_mem_nil, or_false] at ht; rcases ht with rfl <;> exact ⟨by kernel_rfl, of_decide_eq_true (by kernel_rfl)⟩) (by kernel_rfl) Try.underlying4 hW h
  obtain ⟨p, q, hA0, hV, rfl, hfz, hnd⟩ := hW
  have hA : DataW.TrodAll enc Try.prog W 0 (fun _ => true) true Try.f7.params.toList args.toList ds p := hA0
  rw [Try.params7] at hA hval hsz
  obtain ⟨v0, vs0, d0, ds0, p0, q0, hargs, rfl, rfl, h0, r0⟩ := trodAll_cons hA
  obtain ⟨rfl, rfl, rfl⟩ := trodAll_nil r0
  obtain rfl : args = #[v0] := by cases args; simp_all
  obtain ⟨rfl, rfl⟩ := trodVars_none hV
  obtain ⟨cs0, rfl, hcz0⟩ := okWide_struct Try.underlying24 (hval 0 24 v0 rfl rfl)
  obtain ⟨fuel0, hf0⟩ := h0
  obtain ⟨x0, hx0, ok0⟩ := open_def12 fuel0 cs0.toList _ (Array.length_toList.trans (hcz0.trans (by kernel_rfl))) hf0 (fun y hy => by simpa using List.all_eq_true.1 hsz _ (DataW.weights_mem_each (j := 0) rfl rfl y hy))
  obtain rfl : cs0 = (enFD x0).toArray := by rw [← hx0]
  exact (planCompiles_walk x0.nm x0.l x0.A x0.cap W ok0.rd ok0.ok).mono fin

set_option maxRecDepth 100000 in
theorem lifted (os : Os) (started : os.Started) (H : Type) (enc : TypeId × Value → H) :
    ReturnsInHanded {} Try.checked os 7 .any (Rows.planCompilesSpec.pre6 enc Try.prog Try.f7 Rows.planCompilesRow.domain false) (Rows.planCompilesSpec.post enc Try.prog Try.f7 false true false false) := by
  refine returnsInHanded_of_change_sized (C := Try.checked) own started (by kernel_rfl) Try.func7
    (ChangeSpec.witness6 (enc := enc) (C := Try.checked) false ⟨#[], #[.agg #[.string ByteArray.empty, .slice none 0 0]], []⟩ 8 (by kernel_rfl) (by kernel_rfl) (by kernel_rfl) (by kernel_rfl)) ?_
  intro W base args ds gs before hval hW _ hsz _
  exact contract H enc W base args ds gs before hval hW hsz

/-- THE STATEMENT. -/
theorem proved : Rows.PlanCompilesSaid :=
  OpenClaim.holds_of_wide 7 Try.f7 rfl rfl rfl rfl rfl rfl rfl ⟨rfl, rfl, rfl, rfl, rfl⟩ rfl rfl rfl rfl rfl (by kernel_rfl) Try.func7 (by kernel_rfl)
    (of_decide_eq_true (by kernel_rfl)) (by unfold Func.isWrapper; rw [if_neg (of_decide_eq_false (by kernel_rfl))]; exact ⟨rfl, rfl⟩)
    (fun os started H enc _ => lifted os started H enc)
#print axioms proved
end Go.Proofs.Ytemhoaapapeilaa.lawPlanCompiles
